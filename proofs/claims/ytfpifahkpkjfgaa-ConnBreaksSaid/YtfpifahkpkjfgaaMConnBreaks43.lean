/- What ConnBreaks needs, a part: CnFg, CnQu, CnQv. -/
import Derived.Deep.CutBlock
import Derived.Test.YtfpifahkpkjfgaaMZ
import Derived.Test.YtfpifahkpkjfgaaMConnBreaks1
import Derived.Test.YtfpifahkpkjfgaaMConnBreaks30
import Derived.Test.YtfpifahkpkjfgaaMConnBreaks39
import Derived.Test.YtfpifahkpkjfgaaMConnBreaks42
/- conn: one side breaks off (plain): what ConnBreaks sees. -/
namespace Go.Proofs.Ytfpifahkpkjfgaa
open Go.RowKit Go.Lib
set_option linter.unusedVariables false
set_option linter.unusedSimpArgs false
theorem sends_two {x : KPr} {a b : KCn} (ha : cOut x.a = (a, [])) (hb : cOut x.b = (b, [])) : sends x = some ⟨a, b, x.p⟩ := sends_is ha hb rfl rfl
/-- what the walk asks of sends -/
def SOk (x z : KPr) : Prop :=
 ∃ t : Int, t ≤ 1000000000000 ∧ CI x.a t ∧ CI x.b t ∧ POk x.p ∧ x.p.air.length ≤ 1000000000 ∧ sends x = some z ∧ (∀ s ∈ (cOut x.a).2, SegOk s) ∧ (∀ s ∈ (cOut x.b).2, SegOk s)
theorem sok_pi {iss irs : Int} {N : Nat} {t : Int} {h : KGh} {x : KPr} (hP : PI iss irs N t (gh h x)) (ht : t ≤ 100000000) : ∃ z, SOk x z ∧ PI iss irs N t (gh h z) := by
 obtain ⟨y, hy, hPy, hsa, hsb⟩ := hP.sends
 rw [gh_sends] at hy
 obtain ⟨z, hz, rfl⟩ := Option.map_eq_some_iff.1 hy
 have hok := hP.ok
 have hlen := hP.len
 have hl : ((gh h x).p.air.length : Int) = x.p.air.length := rfl
 exact ⟨z, ⟨t, by omega, hP.ciA, hP.ciB, ⟨hok.e0, hok.e1⟩, by omega, hz, hsa, hsb⟩, hPy⟩
theorem write_e {la lp ra rp iss irs own m wat wak now : Int} {T : ByteArray} (hT : T.size ≤ 1000) :
  ∃ x, (cWrite (cE la lp ra rp iss irs own m wat wak now false) T).1 = { cE la lp ra rp iss irs own m wat wak now false with o := oWrite ⟨[], 1, 1, 1, 1, false⟩ T, clock := x } ∧ (cWrite (cE la lp ra rp iss irs own m wat wak now false) T).2.1 = T.size ∧ (cWrite (cE la lp ra rp iss irs own m wat wak now false) T).2.2 = 0 := by
 have hn : oN ⟨[], 1, 1, 1, 1, false⟩ T.size = T.size := by
  unfold oN oRoom
  simp
  omega
 obtain ⟨x, hx, -⟩ := cSettle_is { cE la lp ra rp iss irs own m wat wak now false with o := oWrite ⟨[], 1, 1, 1, 1, false⟩ T }
 have e : cWrite (cE la lp ra rp iss irs own m wat wak now false) T = (cSettle { cE la lp ra rp iss irs own m wat wak now false with o := oWrite ⟨[], 1, 1, 1, 1, false⟩ T }, ((T.size : Int), 0)) := by
  unfold cWrite
  rw [if_neg (fun e => absurd e.1 (show ¬ (3 : Int) = 0 by decide)), if_neg (fun e => by rcases e with e | e; exact absurd e (show ¬ (3 : Int) = 0 by decide); cases e)]
  show (cSettle { cE la lp ra rp iss irs own m wat wak now false with o := oWrite ⟨[], 1, 1, 1, 1, false⟩ T }, if oN ⟨[], 1, 1, 1, 1, false⟩ T.size = 0 ∧ T.size ≠ 0 then ((0 : Int), (14 : Int)) else ((oN ⟨[], 1, 1, 1, 1, false⟩ T.size : Int), 0)) = _
  rw [hn, if_neg (fun e => e.2 e.1)]
 rw [e]
 exact ⟨x, hx, rfl, rfl⟩
theorem ok_e : OqOk ⟨[], 1, 1, 1, 1, false⟩ := ⟨by decide, by decide, by decide, by decide, by decide, by decide, .inr ⟨by decide, by decide⟩⟩
theorem fin_w {T : ByteArray} (hT : T.size ≤ 1000) : oFin (oWrite ⟨[], 1, 1, 1, 1, false⟩ T) = 1 + T.size := by
 have hn : oN ⟨[], 1, 1, 1, 1, false⟩ T.size = T.size := by
  unfold oN oRoom
  simp
  omega
 unfold oFin oWrite
 rw [hn]
 show (1 : Int) + (([] ++ sI (T.extract 0 T.size) : List Int).length : Int) = _
 rw [List.nil_append, sI_len, ByteArray.size_extract]
 omega
theorem ext_all (T : ByteArray) : (⟨#[]⟩ : ByteArray) ++ T.extract 0 ((T.size : Int).toNat) = T := by
 rw [Int.toNat_natCast, ByteArray.extract_zero_size]
 exact ByteArray.empty_append
theorem FR.out_h {A B : KAd} {r : KCn} {N V D mr : Int} {R : Option Int} {W : KWd} {fl ow : Bool} (h : FR A B r N V D R W mr fl ow) : (cOut r).1.h = r.h := by
 rw [out_none h.st0.1 h.rs h.ag h.idle]
 exact (cSettle_o _).2.2.2
/-- all that ConnBreaks sees, from the meeting on -/
structure BrkAll (iss irs : Int) (y : KPr) (T : ByteArray) : Prop where
 w : (cWrite y.a T).2.2 = 0
 go : ∃ (x4 x5 x7 x8 : KPr) (k : Nat), SOk ⟨(cWrite y.a T).1, y.b, y.p⟩ x4 ∧ k ≤ 9001 ∧ Qx k x4 x5 ∧ (∃ t : Int, t ≤ 1000000000000 ∧ CI x5.a t) ∧ (cAbort x5.a).2 = 0 ∧ SOk ⟨(cAbort x5.a).1, x5.b, x5.p⟩ x7 ∧
  Qx 1 ⟨x7.a, x7.b, { x7.p with br := true }⟩ x8 ∧ x8.b.st = 0 ∧ x8.b.why = 12 ∧ x8.a.why = 17 ∧ (∃ t : Int, t ≤ 1000000 ∧ CI x8.b t) ∧
  (cRead x8.b 999).2.2.2 = (if T.size = 0 then 12 else 0) ∧ (T.size ≠ 0 → (cRead x8.b 999).2.1 = T ∧ (cRead (cRead x8.b 999).1 9).2.2.2 = 12 ∧ (cWrite (cRead (cRead x8.b 999).1 9).1 ⟨#[120]⟩).2.2 = 12) ∧
  (T.size = 0 → (cRead x8.b 9).2.2.2 = 12 ∧ (cWrite (cRead x8.b 9).1 ⟨#[120]⟩).2.2 = 12)
theorem closed_read {c : KCn} (h0 : c.st = 0) (h1 : c.why = 12) (hr : c.h ≠ none → endZ (cQ c) - (cQ c).rd ≤ 0 ∧ (cQ c).over = false) (n : Int) : cRead c n = (c, ⟨#[]⟩, false, 12) := by
 unfold cRead
 rw [if_neg (fun e => by have := (hr e.1).1; omega), if_neg (fun e => by have := (hr e.1).2; rw [e.2] at this; cases this)]
 unfold cReadT
 rw [if_neg (fun e => e h0), if_pos (by rw [h1]; decide), h1]
theorem closed_write {c : KCn} (h0 : c.st = 0) (h1 : c.why = 12) (s : ByteArray) : (cWrite c s).2.2 = 12 := by
 unfold cWrite
 rw [if_pos ⟨h0, by rw [h1]; decide⟩]
 exact h1
theorem breaks_all {iss irs ma mb : Int} {y : KPr} (hi : 0 ≤ iss ∧ iss ≤ 4294967295) (hj : 0 ≤ irs ∧ irs ≤ 4294967295) (hA : 8 ≤ ma ∧ ma ≤ 1000) (hB : 8 ≤ mb ∧ mb ≤ 1000) (T : ByteArray) (hT : T.size ≤ 500)
  (hP : PI iss irs 0 2 (gh gh0 y)) (ha : y.a = cE 1 40000 2 80 iss irs ma (cMss ma mb) 0 0 0 false) (hb : y.b = cE 2 80 1 40000 irs iss mb (cMss mb ma) 1 1 0 false) (hair : y.p.air = []) : BrkAll iss irs y T := by
 have hma := cMss_in (m := mb) hA
 have hmb := cMss_in (m := ma) hB
 obtain ⟨cx, w1, w2, w3⟩ := write_e (la := 1) (lp := 40000) (ra := 2) (rp := 80) (iss := iss) (irs := irs) (own := ma) (m := cMss ma mb) (wat := 0) (wak := 0) (now := 0) (T := T) (by omega)
 replace w1 : (cWrite y.a T).1 = { cE 1 40000 2 80 iss irs ma (cMss ma mb) 0 0 0 false with o := oWrite ⟨[], 1, 1, 1, 1, false⟩ T, clock := cx } := by rw [ha]; exact w1
 replace w2 : (cWrite y.a T).2.1 = T.size := by rw [ha]; exact w2
 replace w3 : (cWrite y.a T).2.2 = 0 := by rw [ha]; exact w3
 have hqe : qEnd (oWrite ⟨[], 1, 1, 1, 1, false⟩ T) = 1 + T.size := by
  have := fin_w (T := T) (by omega)
  unfold qEnd
  rw [show (oWrite ⟨[], 1, 1, 1, 1, false⟩ T).cl = false from rfl, this]
  rfl
 -- it is written
 have hP3 := hP.write0 T (by omega)
 have hP3' : PI iss irs (0 + T.size) (2 + 1) (gh ⟨T, ⟨#[]⟩, ⟨#[]⟩, ⟨#[]⟩, false, false⟩ ⟨(cWrite y.a T).1, y.b, y.p⟩) := by
  have e : (⟨#[]⟩ : ByteArray) ++ T.extract 0 (cWrite y.a T).2.1.toNat = T := by rw [w2]; exact ext_all T
  have hP4 : PI iss irs (0 + T.size) (2 + 1) (gh ⟨(⟨#[]⟩ : ByteArray) ++ T.extract 0 (cWrite y.a T).2.1.toNat, ⟨#[]⟩, ⟨#[]⟩, ⟨#[]⟩, false, false⟩ ⟨(cWrite y.a T).1, y.b, y.p⟩) := hP3
  rw [e] at hP4
  exact hP4
 obtain ⟨x4, s4, P4⟩ := sok_pi hP3' (by decide)
 have hs4 : sends ⟨(cWrite y.a T).1, y.b, y.p⟩ = some x4 := by obtain ⟨_, _, _, _, _, _, h, _⟩ := s4; exact h
 have hfs : FS (adA iss) (adB irs) (cWrite y.a T).1 newIQ 1 1 1 (2 * cMss ma mb + 1) 2049 :=
  fs_e (la := 1) (lp := 40000) (ra := 2) (rp := 80) (iss := iss) (irs := irs) (own := ma) (wat := 0) (wak := 0) (now := 0) (st := 3) (o := oWrite ⟨[], 1, 1, 1, 1, false⟩ T) (sh := false) rfl rfl hma cx w1 (write_ok ok_e T) rfl rfl rfl rfl (by rw [hqe]; omega) (.inl ⟨rfl, rfl⟩)
 have hfr : FR (adA iss) (adB irs) y.b 1 1 1 (some 2048) ⟨cMss mb ma, 2 * cMss mb ma + 1, 65535⟩ (cMss mb ma) false false := by
  rw [hb]; exact fr_e rfl rfl
 have hqa : qEnd (cWrite y.a T).1.o = 1 + T.size := by rw [w1]; exact hqe
 have hsh : (cWrite y.a T).1.shut = false := by rw [w1]; rfl
 have hst3 : (cWrite y.a T).1.st = 3 := by rw [w1]; rfl
 obtain ⟨_, k, x5, k1, k2, k3, k4, k5, k6⟩ := flow_go (D := 1) hP3' hs4 hair (by decide) (fun x e => by cases e; decide) hfs hfr (by omega) (by dsimp only; rw [hqa]; omega) (by dsimp only; rw [hsh]; exact fun e => by cases e)
 obtain ⟨k6a, k6b, k6c⟩ := k6
 dsimp only at k6a k6b k6c
 rw [hqa] at k6a
 rw [hsh] at k6b
 rw [hst3] at k6c
 have hst5 : x5.a.st = 3 := by
  rcases k6c with e | ⟨e, _⟩
  ·exact e
  ·rw [hsh] at e; cases e
 obtain ⟨w, f1, f2⟩ := (flow_end k4 k5).1 k6b
 rw [k6a] at f1 f2
 obtain ⟨Q, hQ⟩ : ∃ z, z = 1 + (T.size : Int) := ⟨_, rfl⟩
 rw [← hQ] at f1 f2
 have hc5 := k3.ciA
 have hc5b := k3.ciB
 have hkt : (0 : Int) ≤ k ∧ (k : Int) ≤ 2200 := by omega
 -- it breaks off
 obtain ⟨n, hn⟩ : ∃ z, z = u32 (x5.a.iss + u32 x5.a.o.sent) := ⟨_, rfl⟩
 have hn1 : n = u32 (iss + Q) := by rw [hn, u32_add, f1.ad.iss, f1.sent]; rfl
 have hab : cAbort x5.a = ({ x5.a with rs := [n], st := 0, why := 17, clock := -1 }, 0) := by
  unfold cAbort
  rw [if_neg (by rw [hst5]; decide), if_neg (by rw [hst5]; decide), ← hn, f1.rs]
  rw [settle_off (.inl rfl)]
  rfl
 have hca : CI ({ x5.a with rs := [n], st := 0, why := 17, clock := -1 } : KCn) (2 + 1 + k + 1) := by
  have h1 := ((hc5.cj.rst n (by rw [hn1]; exact u32_bd _)).closed 17).settle
  rw [settle_off (.inl rfl)] at h1
  have e : ({ x5.a with rs := x5.a.rs ++ [n] } : KCn) = { x5.a with rs := [n] } := by rw [f1.rs]; rfl
  have h2 : CI ({ cClosed { x5.a with rs := x5.a.rs ++ [n] } 17 with clock := -1 } : KCn) (2 + 1 + k + 1) := h1
  rw [e] at h2
  exact h2
 obtain ⟨a7, ha7⟩ : ∃ z : KCn, z = { x5.a with rs := [], st := 0, why := 17, clock := -1 } := ⟨_, rfl⟩
 obtain ⟨g, hg⟩ : ∃ z : KSeg, z = ⟨x5.a.la, x5.a.lp, x5.a.ra, x5.a.rp, n, 0, false, false, false, true, 0, 0, ⟨#[]⟩⟩ := ⟨_, rfl⟩
 have hoa : cOut ({ x5.a with rs := [n], st := 0, why := 17, clock := -1 } : KCn) = (a7, [g]) := by
  unfold cOut
  dsimp only
  rw [if_pos rfl, ha7, hg]
  rfl
 have hca7 : CI a7 (2 + 1 + k + 1) := by
  have := hca.out.1
  rw [hoa] at this
  exact this
 have hpb : okP (adB irs).lp ∧ okP (adB irs).rp := ⟨(by decide : (0 : Int) < 80 ∧ (80 : Int) ≤ 65535), (by decide : (0 : Int) < 40000 ∧ (40000 : Int) ≤ 65535)⟩
 obtain ⟨b1, b2⟩ := f2.none (by simp; omega) hpb
 have b3 := f2.out_h
 obtain ⟨b7, hb7⟩ : ∃ z, z = (cOut x5.b).1 := ⟨_, rfl⟩
 rw [← hb7] at b1 b3
 have hob : cOut x5.b = (b7, []) := Prod.ext hb7.symm b2
 have hcb7 : CI b7 (2 + 1 + k) := by rw [hb7]; exact hc5b.out.1
 have hgad : (g.fa = 1 ∧ g.fp = 40000) ∧ (g.ta = 2 ∧ g.tp = 80) := by
  rw [hg]; exact ⟨⟨f1.ad.la, f1.ad.lp⟩, ⟨f1.ad.ra, f1.ad.rp⟩⟩
 have hgc : tcChk g = 0 := by
  rw [hg]
  refine chk_of ?_ ?_ ⟨Int.le_refl 0, (by decide : (0 : Int) ≤ 65535)⟩ ⟨Int.le_refl 0, (by decide : (0 : Int) ≤ 65535)⟩ (.inl rfl) (fun e => by cases e) (fun e => by cases e) (.inl rfl) (Nat.zero_le 1000)
  ·show okP x5.a.lp; rw [f1.ad.lp]; exact (by decide : (0 : Int) < 40000 ∧ (40000 : Int) ≤ 65535)
  ·show okP x5.a.rp; rw [f1.ad.rp]; exact (by decide : (0 : Int) < 80 ∧ (80 : Int) ≤ 65535)
 have hnb := u32_bd (iss + Q)
 rw [← hn1] at hnb
 have hgs : SegOk g := by
  obtain ⟨⟨c1, c2⟩, ⟨c3, c4⟩⟩ := hgad
  refine ⟨by rw [c1]; decide, by rw [c2]; decide, by rw [c3]; decide, by rw [c4]; decide, ?_, ?_, ?_, ?_, ?_⟩
  ·rw [hg]; exact hnb
  ·rw [hg]; exact (by decide : (0 : Int) ≤ 0 ∧ (0 : Int) ≤ 4294967295)
  ·rw [hg]; exact (by decide : (-9223372036854775808 : Int) ≤ 0 ∧ (0 : Int) ≤ 9223372036854775807)
  ·rw [hg]; exact (by decide : (-9223372036854775808 : Int) ≤ 0 ∧ (0 : Int) ≤ 9223372036854775807)
  ·rw [hg]; exact Nat.zero_le _
 have hgr : g.rst = true ∧ g.has = false ∧ g.syn = false ∧ g.fin = false ∧ g.b = ⟨#[]⟩ ∧ g.seq = n := by rw [hg]; exact ⟨rfl, rfl, rfl, rfl, rfl, rfl⟩
 have hsd : sdOk true x5.p g = true := by
  show (decide (g.fa = 1 ∧ g.fp = 40000) && (decide (g.ta = 2 ∧ g.tp = 80) && decide (tcChk g = 0)) && !(x5.p.t0 && (decide (0 < (g.b.size : Int)) && lessB (u32 (x5.p.e0 + 1)) (u32 (g.seq + u32 g.b.size))))) = true
  rw [decide_eq_true hgad.1, decide_eq_true hgad.2, decide_eq_true hgc, hgr.2.2.2.2.1, decide_eq_false (show ¬ (0 : Int) < ((⟨#[]⟩ : ByteArray).size : Int) by decide), Bool.false_and, Bool.and_false]
  rfl
 have hsp : sdStep true x5.p g = { x5.p with air := [g] } := by
  have ht : ¬ tellT x5.p g := fun e => by have e1 : g.has = true := e.1; rw [hgr.2.1] at e1; cases e1
  rw [stepT, if_neg ht, if_neg ht, k5]
  rfl
 have hl1 : sdList true x5.p [g] = some { x5.p with air := [g] } := by
  unfold sdList
  rw [if_pos hsd, hsp]
  rfl
 have hs7 : sends ⟨(cAbort x5.a).1, x5.b, x5.p⟩ = some ⟨a7, b7, { x5.p with air := [g] }⟩ := sends_is (by show cOut (cAbort x5.a).1 = _; rw [hab]; exact hoa) hob hl1 rfl
 have hok5 : POk x5.p := ⟨k3.ok.e0, k3.ok.e1⟩
 have so7 : SOk ⟨(cAbort x5.a).1, x5.b, x5.p⟩ ⟨a7, b7, { x5.p with air := [g] }⟩ := by
  refine ⟨2 + 1 + k + 1, by omega, ?_, hc5b.mono (by omega), hok5, by rw [show (⟨(cAbort x5.a).1, x5.b, x5.p⟩ : KPr).p.air = [] from k5]; decide, hs7, ?_, ?_⟩
  ·show CI (cAbort x5.a).1 _; rw [hab]; exact hca
  ·show ∀ s ∈ (cOut (cAbort x5.a).1).2, SegOk s
   rw [hab]; show ∀ s ∈ (cOut ({ x5.a with rs := [n], st := 0, why := 17, clock := -1 } : KCn)).2, SegOk s
   rw [hoa]
   intro s hs
   rw [List.mem_singleton.1 hs]; exact hgs
  ·show ∀ s ∈ (cOut x5.b).2, SegOk s
   rw [hob]; intro s hs; cases hs
 -- it is told
 obtain ⟨q, hh, qok, qn, qc, qo, qr⟩ := b1.h
 have hcq : cQ b7 = q := by unfold cQ; rw [hh]
 have hez : endZ q - q.rd = T.size := by rw [end_open qo, qn, qr]; omega
 have hin : cIn b7 g = { b7 with st := 0, why := 12, clock := -1 } := by
  obtain ⟨⟨c1, c2⟩, ⟨c3, c4⟩⟩ := hgad
  have he : cInE b7 g = 0 := by
   unfold cInE
   rw [if_neg (fun e => e hgc), if_neg (fun e => e ⟨by rw [c1, b1.ad.ra]; rfl, by rw [c2, b1.ad.rp]; rfl, by rw [c3, b1.ad.la]; rfl, by rw [c4, b1.ad.lp]; rfl⟩), if_neg b1.st0.1]
  have hl : sgLen g = 0 := by unfold sgLen; rw [hgr.2.2.1, hgr.2.2.2.1, hgr.2.2.2.2.1]; rfl
  have hseq : g.seq = u32 (b7.irs + Q) := by rw [hgr.2.2.2.2.2, hn1, b1.irs]; rfl
  have hw : g.seq = cWant b7 := by rw [hseq, want_is, hcq, qn]
  have hacc : accB g.seq (sgLen g) (cWant b7) (cRoomI b7) = true := by
   rw [hseq, want_is, hl, acc_is (by rw [hcq, qn]; omega) (by rw [hcq, qn]; omega) (by omega) (by unfold cRoomI; rw [hcq]; omega)]
   refine decide_eq_true ?_
   unfold accP
   rw [if_pos (by decide), if_neg (by unfold cRoomI; rw [hcq]; omega)]
   unfold cRoomI
   rw [hcq, qn]
   exact ⟨by omega, by omega⟩
  have h9 : b7.st ≠ 9 := by
   rcases b1.st with ⟨_, h | h⟩ | ⟨h, _⟩
   ·omega
   ·omega
   ·cases h
  unfold cIn
  rw [if_neg (fun e => e he), if_neg b1.st0.2.1]
  unfold cNext
  rw [if_neg (by rw [hacc]; exact fun e => by cases e), if_pos ⟨hgr.1, hw⟩, if_neg h9, settle_off (.inl rfl)]
  rfl
 obtain ⟨b8, hb8⟩ : ∃ z : KCn, z = { b7 with st := 0, why := 12, clock := -1 } := ⟨_, rfl⟩
 rw [← hb8] at hin
 have hb8s : b8.st = 0 ∧ b8.why = 12 ∧ b8.rs = [] ∧ b8.h = some (q, ⟨cMss mb ma, 2 * cMss mb ma + 1, 65535⟩) := by rw [hb8]; exact ⟨rfl, rfl, b1.rs, hh⟩
 have hcb8 : CI b8 (2 + 1 + k + 1) := by rw [← hin]; exact (hcb7.in_ (by omega) g hgs).1
 have hcome : come ⟨a7, b7, { x5.p with air := [], br := true }⟩ g = ⟨a7, b8, { x5.p with air := [], br := true }⟩ := by
  unfold come
  rw [if_pos hgad.2]
  show (⟨a7, cIn b7 g, _⟩ : KPr) = _
  rw [hin]
 have ho7 : cOut a7 = (a7, []) := cOut_quiet (by rw [ha7]) (by rw [ha7])
 have ho8 : cOut b8 = (b8, []) := cOut_quiet hb8s.1 hb8s.2.2.1
 have hq1 : Qx 1 ⟨a7, b7, { ({ x5.p with air := [g] } : KPa) with br := true }⟩ ⟨a7, b8, { x5.p with air := [], br := true }⟩ := by
  refine ⟨g, [], ⟨a7, b8, { x5.p with air := [], br := true }⟩, rfl, ?_, rfl, rfl⟩
  have hcome' : come ⟨a7, b7, { ({ ({ x5.p with air := [g] } : KPa) with br := true } : KPa) with air := [] }⟩ g = ⟨a7, b8, { x5.p with air := [], br := true }⟩ := hcome
  refine ⟨2 + 1 + k + 1, by omega, hca7, hcb7.mono (by omega), hgs, ?_⟩
  show CI (come ⟨a7, b7, { ({ ({ x5.p with air := [g] } : KPa) with br := true } : KPa) with air := [] }⟩ g).a _ ∧ _
  dsimp only
  rw [hcome']
  refine ⟨hca7, hcb8, ⟨hok5.e0, hok5.e1⟩, Nat.zero_le _, sends_two ho7 ho8, ?_, ?_⟩
  ·show ∀ s ∈ (cOut a7).2, SegOk s
   rw [ho7]; intro s hs; cases hs
  ·show ∀ s ∈ (cOut b8).2, SegOk s
   rw [ho8]; intro s hs; cases hs
 -- what is read
 have hcq8 : cQ b8 = q := by unfold cQ; rw [hb8s.2.2.2]
 have hhn : b8.h ≠ none := by rw [hb8s.2.2.2]; exact fun e => by cases e
 have hcq5 : cQ x5.b = q := by unfold cQ; rw [← b3, hh]
 have hh5 : x5.b.h ≠ none := by rw [← b3, hh]; exact fun e => by cases e
 have hread : T.size ≠ 0 → (cRead b8 999).2.1 = T ∧ (cRead b8 999).2.2.2 = 0 ∧ (cRead b8 999).1 = { b8 with h := some ({ q with rd := q.rd + T.size }, ⟨cMss mb ma, 2 * cMss mb ma + 1, 65535⟩) } := by
  intro h0
  have hrn : readN q 999 = T.size := by
   unfold readN
   rw [hez]
   rw [if_neg (by omega)]
   omega
  have e8 : cRead b8 999 = ({ b8 with h := some ({ q with rd := q.rd + T.size }, ⟨cMss mb ma, 2 * cMss mb ma + 1, 65535⟩) }, byteS (readL q T.size), false, 0) := by
   have hmp : (b8.h.map fun x => (({ x.1 with rd := x.1.rd + readN x.1 999 } : IQ), x.2)) = some ({ q with rd := q.rd + T.size }, ⟨cMss mb ma, 2 * cMss mb ma + 1, 65535⟩) := by
    rw [hb8s.2.2.2]
    show some (({ q with rd := q.rd + readN q 999 } : IQ), _) = _
    rw [hrn]
   unfold cRead
   rw [if_pos ⟨hhn, by rw [hcq8, hez]; omega⟩, hmp, hcq8, hrn]
  have e5 : (cRead x5.b 999).2.1 = byteS (readL q T.size) := by
   unfold cRead
   rw [if_pos ⟨hh5, by rw [hcq5, hez]; omega⟩, hcq5, hrn]
  obtain ⟨_, _, _, p4, p5⟩ := k3.read1 999 false
  have hsz : (byteS (readL q T.size)).size = T.size := by rw [byteS_sz]; exact fnL_len _ _
  have hg1 : (gh ⟨T, ⟨#[]⟩, ⟨#[]⟩, ⟨#[]⟩, false, false⟩ x5).p.g1 ++ (cRead (gh ⟨T, ⟨#[]⟩, ⟨#[]⟩, ⟨#[]⟩, false, false⟩ x5).b 999).2.1 = byteS (readL q T.size) := by
   show (⟨#[]⟩ : ByteArray) ++ (cRead x5.b 999).2.1 = _
   rw [e5]; exact ByteArray.empty_append
  rw [hg1, hsz] at p5
  have p6 : T.extract 0 T.size = byteS (readL q T.size) := p5
  rw [ByteArray.extract_zero_size] at p6
  rw [e8]
  exact ⟨p6.symm, rfl, rfl⟩
 refine ⟨w3, x4, x5, ⟨a7, b7, { x5.p with air := [g] }⟩, ⟨a7, b8, { x5.p with air := [], br := true }⟩, k, s4, by omega, k2, ⟨_, by omega, hc5⟩, by rw [hab], so7, hq1, hb8s.1, hb8s.2.1, by rw [ha7], ⟨_, by omega, hcb8⟩, ?_, ?_, ?_⟩
 ·by_cases h0 : T.size = 0
  ·rw [if_pos h0, closed_read hb8s.1 hb8s.2.1 (fun _ => ⟨by rw [hcq8, hez, h0]; decide, by rw [hcq8]; exact qo⟩)]
  ·rw [if_neg h0]; exact (hread h0).2.1
 ·intro h0
  obtain ⟨r1, r2, r3⟩ := hread h0
  refine ⟨r1, ?_, ?_⟩
  all_goals
   show _ = (12 : Int)
   dsimp only
   rw [r3]
   have hc := closed_read (c := { b8 with h := some ({ q with rd := q.rd + T.size }, ⟨cMss mb ma, 2 * cMss mb ma + 1, 65535⟩) }) hb8s.1 hb8s.2.1 (fun _ => ⟨by
    show endZ { q with rd := q.rd + T.size } - (q.rd + T.size) ≤ 0
    have : endZ { q with rd := q.rd + (T.size : Int) } = endZ q := rfl
    omega, qo⟩) 9
   rw [hc]
  exact closed_write (c := { b8 with h := some ({ q with rd := q.rd + T.size }, ⟨cMss mb ma, 2 * cMss mb ma + 1, 65535⟩) }) hb8s.1 hb8s.2.1 _
 ·intro h0
  have hc := closed_read hb8s.1 hb8s.2.1 (fun _ => ⟨by rw [hcq8, hez, h0]; decide, by rw [hcq8]; exact qo⟩) 9
  dsimp only
  rw [hc]
  exact ⟨rfl, closed_write hb8s.1 hb8s.2.1 _⟩
end Go.Proofs.Ytfpifahkpkjfgaa
/- conn: calls of a pair's two. Written by my gencn.py. -/
namespace Go.Proofs.Ytfpifahkpkjfgaa
open Go.RowKit Go.Lib
set_option linter.unusedVariables false
set_option linter.unusedSimpArgs false
theorem sends_p {E : Nat → Prop} {w0 W : World} (gp ga gia gwa : Nat) (ka : KPt) (gb gib gwb : Nat) (kb : KPt) (va : Value) (x z : KPr) (m : List Res) (hs : SOk x z) (h : MemX E w0 W (prM (⟨gp, ga, gia, gwa, ka, gb, gib, gwb, kb, va⟩ : KPl) x m)) (hok : KPl.ok (⟨gp, ga, gia, gwa, ka, gb, gib, gwb, kb, va⟩ : KPl) x) :
  Calls Try.prog 21 #[.pointer (some ⟨gp, 0, none⟩)] W fun e W' => e = .returned (.bool true) ∧ ∃ ka' kb' va', MemX E w0 W' (prM (⟨gp, ga, gia, gwa, ka', gb, gib, gwb, kb', va'⟩ : KPl) z m) ∧ KPl.ok (⟨gp, ga, gia, gwa, ka', gb, gib, gwb, kb', va'⟩ : KPl) z := by
 obtain ⟨t, s1, s2, s3, s4, s5, s6, s7, s8⟩ := hs
 refine (sends_any (⟨gp, ga, gia, gwa, ka, gb, gib, gwb, kb, va⟩ : KPl) x z m W h hok t s2 s3 s1 s6 s4 s5 s7 s8).mono ?_
 rintro e W' ⟨ka', kb', va', rfl, h2, h3⟩
 exact ⟨rfl, ka', kb', va', h2, h3⟩
theorem quiet_p {E : Nat → Prop} {w0 W : World} (gp ga gia gwa : Nat) (ka : KPt) (gb gib gwb : Nat) (kb : KPt) (va : Value) (x z : KPr) (m : List Res) (n : Nat) (hn : n ≤ 9001) (hq : Qx n x z) (h : MemX E w0 W (prM (⟨gp, ga, gia, gwa, ka, gb, gib, gwb, kb, va⟩ : KPl) x m)) (hok : KPl.ok (⟨gp, ga, gia, gwa, ka, gb, gib, gwb, kb, va⟩ : KPl) x) :
  Calls Try.prog 24 #[.pointer (some ⟨gp, 0, none⟩)] W fun e W' => e = .returned (.bool true) ∧ ∃ gia' gwa' ka' gib' gwb' kb' va', MemX E w0 W' (prM (⟨gp, ga, gia', gwa', ka', gb, gib', gwb', kb', va'⟩ : KPl) z m) ∧ KPl.ok (⟨gp, ga, gia', gwa', ka', gb, gib', gwb', kb', va'⟩ : KPl) z := by
 refine (quiet_any (⟨gp, ga, gia, gwa, ka, gb, gib, gwb, kb, va⟩ : KPl) x z m W h hok n hn hq).mono ?_
 rintro e W' ⟨rfl, ⟨gp1, ga1, gia1, gwa1, ka1, gb1, gib1, gwb1, kb1, va1⟩, h2, h3, e1, e2, e3⟩
 dsimp only at e1 e2 e3
 subst e1 e2 e3
 exact ⟨rfl, gia1, gwa1, ka1, gib1, gwb1, kb1, va1, h2, h3⟩
section
variable {E : Nat → Prop} {w W : World} {gc gi gw : Nat} {c : KCn} {k : KPt}
theorem wrF (F m : List Res) {t : Int} (h : MemX E w W (F ++ (cnH gc gi gw c k ++ m))) (hk : KOk k gi gw c.h) (hc : CI c t) (ht : t ≤ 1000000000000) (s : ByteArray) (hs : s.size ≤ 140737488351232) :
  Calls Try.prog 23 #[.pointer (some ⟨gc, 0, none⟩), .string s] W fun e W' => ∃ k', e = .returned (.tuple #[.int .i64 (cWrite c s).2.1, .int .i64 (cWrite c s).2.2]) ∧ MemX E w W' (F ++ (cnH gc gi gw (cWrite c s).1 k' ++ m)) ∧ KOk k' gi gw (cWrite c s).1.h := by
 have h9 := hc.cok (by omega)
 have h8 := h9.hb
 refine (cWrite_any gc gi gw c k (F ++ m) W (cn_at h) hk s hc.o (by omega) hs).mono ?_
 rintro e W' ⟨k', rfl, h2, hk'⟩
 exact ⟨k', rfl, cn_un h2, hk'⟩
theorem abF (F m : List Res) {t : Int} (h : MemX E w W (F ++ (cnH gc gi gw c k ++ m))) (hk : KOk k gi gw c.h) (hc : CI c t) (ht : t ≤ 1000000000000) :
  Calls Try.prog 25 #[.pointer (some ⟨gc, 0, none⟩)] W fun e W' => ∃ k', e = .returned (.int .i64 (cAbort c).2) ∧ MemX E w W' (F ++ (cnH gc gi gw (cAbort c).1 k' ++ m)) ∧ KOk k' gi gw (cAbort c).1.h := by
 have h9 := hc.cok (by omega)
 have h8 := h9.hb
 have h7 := hc.rsl
 refine (cAbort_any gc gi gw c k (F ++ m) W (cn_at h) hk hc.o (by omega) (by omega)).mono ?_
 rintro e W' ⟨k', rfl, h2, hk'⟩
 exact ⟨k', rfl, cn_un h2, hk'⟩
theorem rdF (F m : List Res) {t : Int} (h : MemX E w W (F ++ (cnH gc gi gw c k ++ m))) (hk : KOk k gi gw c.h) (hc : CI c t) (most : Int) (hm : -9223372036854775808 ≤ most) (hm' : most ≤ 9223372036854775807) :
  Calls Try.prog 26 #[.pointer (some ⟨gc, 0, none⟩), .int .i64 most] W fun e W' => e = .returned (.tuple #[.string (cRead c most).2.1, .bool (cRead c most).2.2.1, .int .i64 (cRead c most).2.2.2]) ∧ MemX E w W' (F ++ (cnH gc gi gw (cRead c most).1 k ++ m)) ∧ KOk k gi gw (cRead c most).1.h := by
 have hq : c.h ≠ none → IqOk (cQ c) := by
  intro hh
  obtain ⟨x, hx⟩ := Option.ne_none_iff_exists'.1 hh
  obtain ⟨q, d⟩ := x
  have hq : cQ c = q := by unfold cQ; rw [hx]
  rw [hq]
  exact (hc.hs q d hx).1
 refine (cRead_any gc gi gw c k (F ++ m) W (cn_at h) hk most hq hm hm').mono ?_
 rintro e W' ⟨rfl, h2, hk'⟩
 exact ⟨rfl, cn_un h2, hk'⟩
end
theorem wr_p0 {E : Nat → Prop} {w0 W : World} (gp ga gia gwa : Nat) (ka : KPt) (gb gib gwb : Nat) (kb : KPt) (va : Value) (x : KPr) (m : List Res) {t : Int} (hc : CI x.a t) (ht : t ≤ 1000000000000) (s : ByteArray) (hs : s.size ≤ 140737488351232) (h : MemX E w0 W (prM (⟨gp, ga, gia, gwa, ka, gb, gib, gwb, kb, va⟩ : KPl) x m)) (hok : KPl.ok (⟨gp, ga, gia, gwa, ka, gb, gib, gwb, kb, va⟩ : KPl) x) :
  Calls Try.prog 23 #[.pointer (some ⟨ga, 0, none⟩), .string s] W fun e W' => ∃ k', e = .returned (.tuple #[.int .i64 (cWrite x.a s).2.1, .int .i64 (cWrite x.a s).2.2]) ∧ MemX E w0 W' (prM (⟨gp, ga, gia, gwa, k', gb, gib, gwb, kb, va⟩ : KPl) (⟨(cWrite x.a s).1, x.b, x.p⟩ : KPr) m) ∧ KPl.ok (⟨gp, ga, gia, gwa, k', gb, gib, gwb, kb, va⟩ : KPl) (⟨(cWrite x.a s).1, x.b, x.p⟩ : KPr) := by
 refine (wrF [prR gp ga gb va x.p, arR va x.p.air] (cnH gb gib gwb x.b kb ++ m) h hok.1 hc ht s hs).mono ?_
 rintro e W' ⟨k', rfl, h2, hk⟩
 exact ⟨k', rfl, h2, ⟨hk, hok.2⟩⟩
theorem ab_p0 {E : Nat → Prop} {w0 W : World} (gp ga gia gwa : Nat) (ka : KPt) (gb gib gwb : Nat) (kb : KPt) (va : Value) (x : KPr) (m : List Res) {t : Int} (hc : CI x.a t) (ht : t ≤ 1000000000000) (h : MemX E w0 W (prM (⟨gp, ga, gia, gwa, ka, gb, gib, gwb, kb, va⟩ : KPl) x m)) (hok : KPl.ok (⟨gp, ga, gia, gwa, ka, gb, gib, gwb, kb, va⟩ : KPl) x) :
  Calls Try.prog 25 #[.pointer (some ⟨ga, 0, none⟩)] W fun e W' => ∃ k', e = .returned (.int .i64 (cAbort x.a).2) ∧ MemX E w0 W' (prM (⟨gp, ga, gia, gwa, k', gb, gib, gwb, kb, va⟩ : KPl) (⟨(cAbort x.a).1, x.b, x.p⟩ : KPr) m) ∧ KPl.ok (⟨gp, ga, gia, gwa, k', gb, gib, gwb, kb, va⟩ : KPl) (⟨(cAbort x.a).1, x.b, x.p⟩ : KPr) := by
 refine (abF [prR gp ga gb va x.p, arR va x.p.air] (cnH gb gib gwb x.b kb ++ m) h hok.1 hc ht).mono ?_
 rintro e W' ⟨k', rfl, h2, hk⟩
 exact ⟨k', rfl, h2, ⟨hk, hok.2⟩⟩
theorem st_p0 {E : Nat → Prop} {w0 W : World} (gp ga gia gwa : Nat) (ka : KPt) (gb gib gwb : Nat) (kb : KPt) (va : Value) (x : KPr) (m : List Res) (h : MemX E w0 W (prM (⟨gp, ga, gia, gwa, ka, gb, gib, gwb, kb, va⟩ : KPl) x m)) :
  Calls Try.prog 16 #[.pointer (some ⟨ga, 0, none⟩)] W fun e W' => e = .returned (.int .i64 x.a.st) ∧ W = W' := stateF [prR gp ga gb va x.p, arR va x.p.air] (cnH gb gib gwb x.b kb ++ m) h
theorem wy_p0 {E : Nat → Prop} {w0 W : World} (gp ga gia gwa : Nat) (ka : KPt) (gb gib gwb : Nat) (kb : KPt) (va : Value) (x : KPr) (m : List Res) (h : MemX E w0 W (prM (⟨gp, ga, gia, gwa, ka, gb, gib, gwb, kb, va⟩ : KPl) x m)) :
  Calls Try.prog 17 #[.pointer (some ⟨ga, 0, none⟩)] W fun e W' => e = .returned (.int .i64 x.a.why) ∧ W = W' := whyF [prR gp ga gb va x.p, arR va x.p.air] (cnH gb gib gwb x.b kb ++ m) h
theorem wr_p1 {E : Nat → Prop} {w0 W : World} (gp ga gia gwa : Nat) (ka : KPt) (gb gib gwb : Nat) (kb : KPt) (va : Value) (x : KPr) (m : List Res) {t : Int} (hc : CI x.b t) (ht : t ≤ 1000000000000) (s : ByteArray) (hs : s.size ≤ 140737488351232) (h : MemX E w0 W (prM (⟨gp, ga, gia, gwa, ka, gb, gib, gwb, kb, va⟩ : KPl) x m)) (hok : KPl.ok (⟨gp, ga, gia, gwa, ka, gb, gib, gwb, kb, va⟩ : KPl) x) :
  Calls Try.prog 23 #[.pointer (some ⟨gb, 0, none⟩), .string s] W fun e W' => ∃ k', e = .returned (.tuple #[.int .i64 (cWrite x.b s).2.1, .int .i64 (cWrite x.b s).2.2]) ∧ MemX E w0 W' (prM (⟨gp, ga, gia, gwa, ka, gb, gib, gwb, k', va⟩ : KPl) (⟨x.a, (cWrite x.b s).1, x.p⟩ : KPr) m) ∧ KPl.ok (⟨gp, ga, gia, gwa, ka, gb, gib, gwb, k', va⟩ : KPl) (⟨x.a, (cWrite x.b s).1, x.p⟩ : KPr) := by
 refine (wrF (prR gp ga gb va x.p :: arR va x.p.air :: cnH ga gia gwa x.a ka) m h hok.2 hc ht s hs).mono ?_
 rintro e W' ⟨k', rfl, h2, hk⟩
 exact ⟨k', rfl, h2, ⟨hok.1, hk⟩⟩
theorem rd_p1 {E : Nat → Prop} {w0 W : World} (gp ga gia gwa : Nat) (ka : KPt) (gb gib gwb : Nat) (kb : KPt) (va : Value) (x : KPr) (m : List Res) {t : Int} (hc : CI x.b t) (most : Int) (hm : -9223372036854775808 ≤ most) (hm' : most ≤ 9223372036854775807) (h : MemX E w0 W (prM (⟨gp, ga, gia, gwa, ka, gb, gib, gwb, kb, va⟩ : KPl) x m)) (hok : KPl.ok (⟨gp, ga, gia, gwa, ka, gb, gib, gwb, kb, va⟩ : KPl) x) :
  Calls Try.prog 26 #[.pointer (some ⟨gb, 0, none⟩), .int .i64 most] W fun e W' => e = .returned (.tuple #[.string (cRead x.b most).2.1, .bool (cRead x.b most).2.2.1, .int .i64 (cRead x.b most).2.2.2]) ∧ MemX E w0 W' (prM (⟨gp, ga, gia, gwa, ka, gb, gib, gwb, kb, va⟩ : KPl) (⟨x.a, (cRead x.b most).1, x.p⟩ : KPr) m) ∧ KPl.ok (⟨gp, ga, gia, gwa, ka, gb, gib, gwb, kb, va⟩ : KPl) (⟨x.a, (cRead x.b most).1, x.p⟩ : KPr) := by
 refine (rdF (prR gp ga gb va x.p :: arR va x.p.air :: cnH ga gia gwa x.a ka) m h hok.2 hc most hm hm').mono ?_
 rintro e W' ⟨rfl, h2, hk⟩
 exact ⟨rfl, h2, ⟨hok.1, hk⟩⟩
theorem st_p1 {E : Nat → Prop} {w0 W : World} (gp ga gia gwa : Nat) (ka : KPt) (gb gib gwb : Nat) (kb : KPt) (va : Value) (x : KPr) (m : List Res) (h : MemX E w0 W (prM (⟨gp, ga, gia, gwa, ka, gb, gib, gwb, kb, va⟩ : KPl) x m)) :
  Calls Try.prog 16 #[.pointer (some ⟨gb, 0, none⟩)] W fun e W' => e = .returned (.int .i64 x.b.st) ∧ W = W' := stateF (prR gp ga gb va x.p :: arR va x.p.air :: cnH ga gia gwa x.a ka) m h
theorem wy_p1 {E : Nat → Prop} {w0 W : World} (gp ga gia gwa : Nat) (ka : KPt) (gb gib gwb : Nat) (kb : KPt) (va : Value) (x : KPr) (m : List Res) (h : MemX E w0 W (prM (⟨gp, ga, gia, gwa, ka, gb, gib, gwb, kb, va⟩ : KPl) x m)) :
  Calls Try.prog 17 #[.pointer (some ⟨gb, 0, none⟩)] W fun e W' => e = .returned (.int .i64 x.b.why) ∧ W = W' := whyF (prR gp ga gb va x.p :: arR va x.p.air :: cnH ga gia gwa x.a ka) m h
end Go.Proofs.Ytfpifahkpkjfgaa
/- conn: meet. Written by my gencn.py. -/
namespace Go.Proofs.Ytfpifahkpkjfgaa
open Go.RowKit Go.Lib
set_option linter.unusedVariables false
set_option linter.unusedSimpArgs false
theorem qv_init {E : Nat → Prop} {w W : World} {l : List Res} {A : Res} (h : MemX E w W (l ++ [A])) : MemX E w W l := by
 have := h.take_ l.length
 rwa [List.take_left] at this
set_option maxRecDepth 100000 in
set_option maxHeartbeats 8000000 in
theorem meet_any (iss irs a b : Int) (hi : 0 ≤ iss) (hi' : iss ≤ 4294967295) (hj : 0 ≤ irs) (hj' : irs ≤ 4294967295) (ha : -9223372036854775808 ≤ a) (ha' : a ≤ 9223372036854775807) (hb : -9223372036854775808 ≤ b) (hb' : b ≤ 9223372036854775807) :
  ∃ y : KPr, PI iss irs 0 2 (gh gh0 y) ∧ y.a = cE 1 40000 2 80 iss irs (8 + a % 993) (cMss (8 + a % 993) (8 + b % 993)) 0 0 0 false ∧ y.b = cE 2 80 1 40000 irs iss (8 + b % 993) (cMss (8 + b % 993) (8 + a % 993)) 1 1 0 false ∧ y.p.air = [] ∧
   ∀ w, Calls Try.prog 22 #[.int .u32 iss, .int .u32 irs, .agg #[.int .i64 a, .int .i64 b]] w fun e w' => ∃ gp ga gia gwa ka gb gib gwb kb va, e = .returned (.pointer (some ⟨gp, 0, none⟩)) ∧ Mem w w' (prM (⟨gp, ga, gia, gwa, ka, gb, gib, gwb, kb, va⟩ : KPl) y []) ∧ KPl.ok (⟨gp, ga, gia, gwa, ka, gb, gib, gwb, kb, va⟩ : KPl) y := by
 obtain ⟨y0, y, s0, P0, sa, sb, q2, P2, ya, yb, yair⟩ := meet_plain (iss := iss) (irs := irs) (ma := 8 + a % 993) (mb := 8 + b % 993) ⟨hi, hi'⟩ ⟨hj, hj'⟩ (by omega) (by omega)
 refine ⟨y, P2, ya, yb, yair, fun w => ?_⟩
 have hM := Mem.nil w
 have hPA := fun W => paired_any iss irs a b W hi hi' hj hj' ha ha' hb hb'
 obtain ⟨x0, hx0⟩ : ∃ z, z = pr0 iss irs (8 + a % 993) (8 + b % 993) := ⟨_, rfl⟩
 rw [← hx0] at hPA s0 P0 sa sb
 have HPA := Lib.hid hPA
 have hl0 := P0.len
 have hs0 : SOk x0 y0 := ⟨0, by decide, P0.ciA, P0.ciB, P0.ok, by omega, s0, sa, sb⟩
 have HS := Lib.hid hs0
 have HQ := Lib.hid q2
 have HST := Lib.hid (show y.a.st = 3 ∧ y.b.st = 3 from ⟨by rw [ya]; rfl, by rw [yb]; rfl⟩)
 clear hPA hx0 s0 P0 sa sb q2 P2 ya yb yair hi hi' hj hj' ha ha' hb hb' hs0 hl0
 go_enter Try.func22, Try.ntmps22
 go_upto_region 1 with (first | go_skip | ((with_reducible refine at_box_ ?_); refine wpList_box_mem rfl _ _ rfl [.int .i64 a, .int .i64 b] rfl hM ?_; clear hM; intro gb W hM; first | (simp only [List.nil_append] at hM) | (simp only [List.cons_append, List.nil_append] at hM)))
 obtain ⟨gm, hgm⟩ : ∃ x, x = gb := ⟨_, rfl⟩
 subst hgm
 go_upto_region 2 with (first | go_skip | ((with_reducible refine at_load_ (T := 43) ?_); refine wpList_load_mem rfl 43 _ rfl 0 _ _ [.int .i64 a, .int .i64 b] hM rfl rfl _ Try.underlying43 rfl (by kernel_rfl) ?_) | (go_at_call 20; refine (HPA.out _).mono ?_; rintro e W ⟨⟨gp, ga, gia, gwa, ka, gb, gib, gwb, kb, va⟩, rfl, hN, hok⟩; have HOK := Lib.hid hok; clear hok; replace hM := hM.new_ hN; rw [prM_app] at hM; clear hN; dsimp only))
 go_upto_region 4 with (first | go_skip | (go_at_call 21; refine (sends_p gp ga gia gwa ka gb gib gwb kb va _ _ _ HS.out hM HOK.out).mono ?_; clear hM HOK; rintro e W ⟨rfl, ka1, kb1, va1, hM, hok⟩; have HOK := Lib.hid hok; clear hok; dsimp only) | (go_at_call 24; refine (quiet_p gp ga gia gwa ka1 gb gib gwb kb1 va1 _ _ _ 2 (by decide) HQ.out hM HOK.out).mono ?_; clear hM HOK; rintro e W ⟨rfl, gia2, gwa2, ka2, gib2, gwb2, kb2, va2, hM, hok⟩; have HOK := Lib.hid hok; clear hok; dsimp only))
 have HSA := Lib.hid (fun (W : World) (h : Mem w W (prM (⟨gp, ga, gia2, gwa2, ka2, gb, gib2, gwb2, kb2, va2⟩ : KPl) y [atR gm 43 [.int .i64 a, .int .i64 b]])) => (by have h2 := st_p0 gp ga gia2 gwa2 ka2 gb gib2 gwb2 kb2 va2 y _ h; rw [HST.out.1] at h2; exact h2 : Calls Try.prog 16 #[.pointer (some ⟨ga, 0, none⟩)] W fun e W' => e = .returned (.int .i64 3) ∧ W = W'))
 have HSB := Lib.hid (fun (W : World) (h : Mem w W (prM (⟨gp, ga, gia2, gwa2, ka2, gb, gib2, gwb2, kb2, va2⟩ : KPl) y [atR gm 43 [.int .i64 a, .int .i64 b]])) => (by have h2 := st_p1 gp ga gia2 gwa2 ka2 gb gib2 gwb2 kb2 va2 y _ h; rw [HST.out.2] at h2; exact h2 : Calls Try.prog 16 #[.pointer (some ⟨gb, 0, none⟩)] W fun e W' => e = .returned (.int .i64 3) ∧ W = W'))
 clear HPA HS HQ HST
 go_wp2_with (first | go_skip | ((with_reducible refine at_load_ ?_); refine at_wanted_ (by rfl) ?_; first | (refine lM 0 hM rfl rfl rfl rfl ?_)) | (go_at_call 16; first | ((with_reducible refine (HSA.out _ hM).mono ?_); rintro e W ⟨rfl, rfl⟩; dsimp only) | ((with_reducible refine (HSB.out _ hM).mono ?_); rintro e W ⟨rfl, rfl⟩; dsimp only)))
 refine bodyPost_ret (v := .pointer (some ⟨gp, 0, none⟩)) (by simp [results, Try.results22, go_sem]) rfl ?_
 rw [← prM_app] at hM
 exact ⟨gp, ga, gia2, gwa2, ka2, gb, gib2, gwb2, kb2, va2, rfl, qv_init hM, HOK.out⟩
end Go.Proofs.Ytfpifahkpkjfgaa
