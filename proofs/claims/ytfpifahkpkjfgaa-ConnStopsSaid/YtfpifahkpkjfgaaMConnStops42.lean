/- What ConnStops needs, a part: CnFc, CnFd, CnFe. -/
import Derived.Test.YtfpifahkpkjfgaaMConnStops41
namespace Go.Proofs.Ytfpifahkpkjfgaa
open Go.RowKit Go.Lib
set_option linter.unusedVariables false
set_option linter.unusedSimpArgs false
def sLim (s : KCn) (U w E : Int) : Int := oLim s.o (U + (if w < E - U then w else E - U))
structure FE (A B : KAd) (s : KCn) (q : IQ) (Z : Int) : Prop where
 ad : AdOk A s
 irs : s.irs = B.iss
 st : s.st = 5 ∨ (s.st = 0 ∧ s.why = 0)
 sh : s.shut = true
 cl : s.o.cl = true
 rs : s.rs = []
 ag : s.again = false
 ow : s.owed = false
 pr : s.probe = false
 una : s.o.una = Z
 cur : s.o.cur = Z
 sent : s.o.sent = Z
 end_ : qEnd s.o = Z
 wd : ∃ d, s.h = some (q, d)
section
variable {A B : KAd} {s r : KCn} {q : IQ} {N V D a win U C w E Z ℓ : Int} {fl ow : Bool} {g : KSeg} {R : Option Int}
theorem FSl.out (h : FSl A B s q V U C w E ℓ) (hR : ∀ x, R = some x → 2048 - (endZ q - q.rd) = x) (hp : AdTo A B) (hco : COk s) :
  ∃ C' o, FSl A B (cOut s).1 q V U C' w E ℓ ∧ Dats A B V R s.mss (qEnd s.o) s.shut (cOut s).2 C C' o ∧ C' = (if C < sLim s U w E then sLim s U w E else C) ∧ qEnd (cOut s).1.o = qEnd s.o ∧ (cOut s).1.shut = s.shut ∧ (cOut s).1.mss = s.mss ∧ (cOut s).1.st = s.st ∧
   o ≤ 1 ∧ (sLim s U w E ≤ oFin s.o → (sLim s U w E - C) % s.mss = 0 → o = 0) := by
 have hu := h.u1
 have hl : cLimit s = U + (if w < E - U then w else E - U) := by
  unfold cLimit
  rw [if_neg (by rw [h.una]; omega), h.wd, h.pr, h.una]
  dsimp only
  rw [h.wnd]
  simp
 obtain ⟨s', ds, C', o, n1, n2, n3, n4, n5, n6, n7, n8, n9, n10, _, _, _⟩ := loop_flow (E := E) hR hp (lim := cLimit s) 2100 s C [] h (by have := cLeft_bd hco; omega)
 have e0 : ({ s with rs := [] } : KCn) = s := by
  have hr := h.rs
  obtain ⟨⟩ := s
  simp only at hr
  subst hr
  rfl
 have e1 : cFirstL s ([].map (cRst s)) = [] := by
  unfold cFirstL
  rw [if_neg (by rw [h.ag]; exact fun h => by cases h.1)]
  rfl
 have e2 : cOut s = cTail (s', ds) 0 := by
  unfold cOut
  conv => lhs; dsimp only
  rw [if_neg h.st0.1, e0, h.rs, e1, n1, List.nil_append]
  rfl
 have e3 : cTail (s', ds) 0 = (cSettle { s' with owed := false, again := false, probe := false }, ds) := by
  unfold cTail
  dsimp only
  rw [n2.ow]
  rfl
 rw [e2, e3]
 obtain ⟨x, hx, -⟩ := cSettle_is { s' with owed := false, again := false, probe := false }
 rw [hx]
 have hsl : oLim s.o (cLimit s) = sLim s U w E := by unfold sLim; rw [hl]
 rw [hsl] at n4 n10
 exact ⟨C', o, n2.of x s'.meas s'.wh rfl, n3, n4, n5, n6, n7, n8, n9, n10⟩
theorem FE.st0 (h : FE A B s q Z) : cOut s = (if s.st = 0 then s else cSettle { s with owed := false, again := false, probe := false }, []) := by
 by_cases h0 : s.st = 0
 ·rw [if_pos h0]; exact cOut_quiet h0 h.rs
 ·rw [if_neg h0]
  have hi : cIsP s (cLimit s) = false := by
   unfold cIsP oIs
   have hl := oLim_le (q := s.o) (cLimit s)
   rw [decide_eq_false (by rw [h.cur]; rw [h.end_] at hl; omega), Bool.false_and]
  rw [out_none h0 h.rs h.ag hi, h.ow]
  rfl
theorem FE.out (h : FE A B s q Z) : FE A B (cOut s).1 q Z ∧ (cOut s).2 = [] ∧ (cOut s).1.st = s.st := by
 rw [h.st0]
 by_cases h0 : s.st = 0
 ·rw [if_pos h0]; exact ⟨h, rfl, rfl⟩
 ·rw [if_neg h0]
  obtain ⟨x, hx, -⟩ := cSettle_is { s with owed := false, again := false, probe := false }
  rw [hx]
  exact ⟨⟨⟨h.ad.la, h.ad.lp, h.ad.ra, h.ad.rp, h.ad.iss⟩, h.irs, h.st, h.sh, h.cl, h.rs, rfl, rfl, rfl, h.una, h.cur, h.sent, h.end_, h.wd⟩, rfl, rfl⟩
theorem FSl.ack (h : FSl A B s q V U C w E ℓ) (hp : AdTo A B) (hg : Ack A B V g a win) (ha : U < a) (hac : a ≤ C) (hw : 0 ≤ win) (hww : s.mss ≤ ackZ s.mss w ℓ (a - U) ∧ ackZ s.mss w ℓ (a - U) ≤ 65535) :
  qEnd (cIn s g).o = qEnd s.o ∧ oFin (cIn s g).o = oFin s.o ∧ (cIn s g).shut = s.shut ∧ (cIn s g).mss = s.mss ∧
  (¬ (s.shut = true ∧ a = qEnd s.o) → FSl A B (cIn s g) q V a C (ackZ s.mss w ℓ (a - U)) (a + win) ℓ ∧ (cIn s g).st = s.st) ∧
  (s.shut = true ∧ a = qEnd s.o → FE A B (cIn s g) q a ∧ ((s.st = 4 ∧ (cIn s g).st = 5) ∨ (s.st = 8 ∧ (cIn s g).st = 0))) := by
 have hl : sgLen g = 0 := by unfold sgLen; rw [hg.syn, hg.fin, hg.b]; rfl
 have hu := h.u1
 have hv := h.v1
 have hq := h.qrd
 have hm := h.m
 have hee := h.end_
 have hse := h.ok.ee
 have hsent := h.sent
 have eq1 : cQ s = q := by unfold cQ; rw [h.wd]
 have e1 : (cQ s).nx = V := by rw [eq1]; exact h.qnx
 have e2 : cRoomI s = 2048 - (endZ q - q.rd) := by unfold cRoomI; rw [eq1]
 have hcs : g.seq = u32 (s.irs + V) := by rw [hg.seq, h.irs]
 have hck : g.ack = u32 (s.iss + a) := by rw [hg.ack, h.ad.iss]
 have hin : cInE s g = 0 := by
  unfold cInE
  obtain ⟨a1, a2, a3, a4⟩ := hg.ad
  rw [if_neg (fun e => e hg.chk), if_neg (fun e => e ⟨by rw [a1, h.ad.ra, hp.la], by rw [a2, h.ad.rp, hp.lp], by rw [a3, h.ad.la, hp.ra], by rw [a4, h.ad.lp, hp.rp]⟩), if_neg h.st0.1]
 have hat : cAt s g = V := at_is hcs (by rw [e1]; omega) (by rw [e1]; omega)
 have hak : cAckAt s g = a := ackAt_is hck (by rw [h.una]; omega) (by rw [h.una]; omega)
 have hacb : accB g.seq (sgLen g) (cWant s) (cRoomI s) = true := by
  rw [hcs, want_is, e1, e2, hl, acc_is (by omega) (by omega) (by omega) (by omega)]
  refine decide_eq_true ?_
  unfold accP
  rw [if_pos (by decide), if_neg (by omega)]
  exact ⟨by omega, by omega⟩
 have hhit : oHit s.o a = true := by
  unfold oHit
  rw [h.una, hsent, decide_eq_true ha, decide_eq_true hac]; rfl
 obtain ⟨f1, f2⟩ := ack_fin h.ok a
 have o1 : (oAck s.o a).una = a := by unfold oAck; rw [if_pos hhit]
 have o2 : (oAck s.o a).cur = C := by
  have hc := h.cur
  unfold oAck; rw [if_pos hhit]
  show (if s.o.cur < a then a else s.o.cur) = C
  split <;> omega
 have o3 : (oAck s.o a).sent = C := by unfold oAck; rw [if_pos hhit]; exact hsent
 have o4 : (oAck s.o a).cl = s.shut := by unfold oAck; rw [if_pos hhit]; exact h.cl
 have hmany : cMany s.o a = a - U := by unfold cMany; rw [if_pos hhit, h.una]
 have hwd : cAckW ⟨s.mss, w, ℓ⟩ (cMany s.o a) = ⟨s.mss, ackZ s.mss w ℓ (a - U), ℓ⟩ := by
  unfold cAckW
  rw [hmany, if_neg (by omega)]
 obtain ⟨c2, hc2⟩ : ∃ c2, c2 = { cAckd s a with wnd := g.win, wat := V, wak := a } := ⟨_, rfl⟩
 have hch : c2.h = some (q, ⟨s.mss, ackZ s.mss w ℓ (a - U), ℓ⟩) := by
  rw [hc2]
  show s.h.map (fun x => (x.1, cAckW x.2 (cMany s.o a))) = _
  rw [h.wd, Option.map_some, hwd]
 have hco : c2.o = oAck s.o a := by rw [hc2]; rfl
 have hcst : c2.st = s.st ∧ c2.shut = s.shut ∧ c2.rs = s.rs ∧ c2.again = s.again ∧ c2.probe = s.probe ∧ c2.owed = s.owed ∧ c2.mss = s.mss ∧ c2.wnd = win ∧ c2.irs = s.irs ∧ (c2.la = s.la ∧ c2.lp = s.lp ∧ c2.ra = s.ra ∧ c2.rp = s.rp ∧ c2.iss = s.iss) := by
  rw [hc2]; exact ⟨rfl, rfl, rfl, rfl, rfl, rfl, rfl, hg.win, rfl, rfl, rfl, rfl, rfl, rfl⟩
 have hwy : c2.why = s.why := by rw [hc2]; rfl
 obtain ⟨d1, d2, d3, d4, d5, d6, d7, d8, d9, d10, d11, d12, d13, d14⟩ := hcst
 have hak2 : cAcks s g V = if c2.shut = true ∧ c2.o.una = qEnd c2.o then
   (if c2.st = 4 then ({ c2 with st := 5 }, true) else if c2.st = 7 then (cWait c2, true) else if c2.st = 8 then (cClosed c2 0, false) else (c2, true)) else (c2, true) := by
  have hx : cAcks s g V = cAcks2 s g V a := by unfold cAcks; rw [if_neg h.st0.2.2.1, hak]
  have hns : ¬ s.o.sent < a := by rw [hsent]; omega
  have k1 : cAckd s a = if s.o.una < a then cAckd s a else if a = s.o.una ∧ sgLen g = 0 ∧ s.o.una < s.o.cur ∧ g.win = s.wnd then cSame s g else s := by
   rw [if_pos (by rw [h.una]; exact ha)]
  have k2 : c2 = if s.o.una < a ∨ (a = s.o.una ∧ (s.wat < V ∨ (V = s.wat ∧ s.wak ≤ a))) then { cAckd s a with wnd := g.win, wat := V, wak := a } else cAckd s a := by
   rw [if_pos (.inl (by rw [h.una]; exact ha))]; exact hc2
  rw [hx, acks2_of hns k1 k2]
 have hnx : cIn s g = cSettle (if (cAcks s g V).2 then cTakes (cAcks s g V).1 g V else (cAcks s g V).1) := by
  unfold cIn
  rw [if_neg (fun e => e hin), if_neg h.st0.2.1]
  unfold cNext
  rw [if_neg (by rw [hacb]; exact fun e => by cases e), if_neg (by rw [hg.rst]; exact fun e => by cases e.1), if_neg (by rw [hg.rst, hg.syn]; exact fun e => by rcases e with e | e <;> cases e), if_pos hg.has, hat]
 have htk : ∀ c : KCn, c.h = c2.h → c.owed = false → ((c.st = 3 ∨ c.st = 4 ∨ c.st = 5) → q.over = false) → c.st ≠ 9 → cTakes c g V = c := by
  intro c hh ho hov h9
  have hput : putQ q V ⟨#[]⟩ false = q := put_empty h.qok h.qst V
  have t1 : cTakes1 c g V = c := by
   unfold cTakes1
   by_cases h345 : c.st = 3 ∨ c.st = 4 ∨ c.st = 5
   ·rw [if_pos h345]
    have hm2 : ({ c with h := c.h.map fun x => (putQ x.1 V g.b g.fin, x.2) } : KCn) = c := by
     have e : (c.h.map fun x => (putQ x.1 V g.b g.fin, x.2)) = c.h := by
      rw [hh, hch, Option.map_some, hg.b, hg.fin, hput]
     rw [e]
    rw [hm2]
    dsimp only
    have hq2 : (cQ c).over = false := by
     have : cQ c = q := by unfold cQ; rw [hh, hch]
     rw [this]; exact hov h345
    rw [hq2, if_neg (by decide)]
   ·rw [if_neg h345, if_neg (fun e => h9 e.1)]
  have hx : ∀ c : KCn, c.owed = false → ({ c with owed := false || decide ((0 : Int) < 0) } : KCn) = c := by
   intro c ho
   obtain ⟨⟩ := c
   simp only at ho
   subst ho
   rfl
  unfold cTakes
  rw [t1, hl, ho]
  exact hx c ho
 have hs := h.st0
 have hov : (s.st = 3 ∨ s.st = 4) → q.over = false := h.qov
 have hst9 : s.st ≠ 9 ∧ s.st ≠ 5 := by rcases h.st with ⟨_, h | h⟩ | ⟨_, h | h⟩ <;> omega
 have hxo : ∀ (c : KCn) (x : Int), qEnd ({ c with clock := x } : KCn).o = qEnd c.o := fun _ _ => rfl
 by_cases hfin : s.shut = true ∧ a = qEnd s.o
 ·have hcond : c2.shut = true ∧ c2.o.una = qEnd c2.o := ⟨by rw [d2]; exact hfin.1, by rw [hco, o1, f2]; exact hfin.2⟩
  rw [if_pos hcond] at hak2
  have h48 : s.st = 4 ∨ s.st = 8 := by
   rcases h.st with ⟨h1, _⟩ | ⟨_, h1⟩
   ·rw [h1] at hfin; cases hfin.1
   ·exact h1
  have haC : a = C := by omega
  rcases h48 with h4 | h8
  ·rw [if_pos (by rw [d1]; exact h4)] at hak2
   have e5 : cTakes { c2 with st := 5 } g V = { c2 with st := 5 } := htk _ rfl (by rw [← h.ow]; exact d6) (fun _ => hov (.inr h4)) (by show (5 : Int) ≠ 9; decide)
   rw [hak2] at hnx
   simp only [if_true] at hnx
   rw [e5] at hnx
   obtain ⟨x, hx, -⟩ := cSettle_is { c2 with st := 5 }
   rw [hx] at hnx
   rw [hnx]
   refine ⟨by show qEnd c2.o = _; rw [hco, f2], by show oFin c2.o = _; rw [hco, f1], d2, d7, fun hn => absurd hfin hn, fun _ => ⟨⟨⟨d10.trans h.ad.la, d11.trans h.ad.lp, d12.trans h.ad.ra, d13.trans h.ad.rp, d14.trans h.ad.iss⟩, d9.trans h.irs, .inl rfl, d2.trans hfin.1, ?_, d3.trans h.rs, d4.trans h.ag, d6.trans h.ow, d5.trans h.pr, ?_, ?_, ?_, ?_, _, hch⟩, .inl ⟨h4, rfl⟩⟩⟩
   ·show c2.o.cl = true; rw [hco, o4]; exact hfin.1
   ·show c2.o.una = a; rw [hco, o1]
   ·show c2.o.cur = a; rw [hco, o2, haC]
   ·show c2.o.sent = a; rw [hco, o3, haC]
   ·show qEnd c2.o = a; rw [hco, f2]; exact hfin.2.symm
  ·rw [if_neg (by rw [d1]; omega), if_neg (by rw [d1]; omega), if_pos (by rw [d1]; exact h8)] at hak2
   rw [hak2] at hnx
   simp only [Bool.false_eq_true, if_false] at hnx
   obtain ⟨x, hx, -⟩ := cSettle_is (cClosed c2 0)
   rw [hx] at hnx
   rw [hnx]
   refine ⟨by show qEnd c2.o = _; rw [hco, f2], by show oFin c2.o = _; rw [hco, f1], d2, d7, fun hn => absurd hfin hn, fun _ => ⟨⟨⟨d10.trans h.ad.la, d11.trans h.ad.lp, d12.trans h.ad.ra, d13.trans h.ad.rp, d14.trans h.ad.iss⟩, d9.trans h.irs, .inr ⟨rfl, rfl⟩, d2.trans hfin.1, ?_, d3.trans h.rs, d4.trans h.ag, d6.trans h.ow, d5.trans h.pr, ?_, ?_, ?_, ?_, _, hch⟩, .inr ⟨h8, rfl⟩⟩⟩
   ·show c2.o.cl = true; rw [hco, o4]; exact hfin.1
   ·show c2.o.una = a; rw [hco, o1]
   ·show c2.o.cur = a; rw [hco, o2, haC]
   ·show c2.o.sent = a; rw [hco, o3, haC]
   ·show qEnd c2.o = a; rw [hco, f2]; exact hfin.2.symm
 ·have hcond : ¬ (c2.shut = true ∧ c2.o.una = qEnd c2.o) := fun hh => hfin ⟨by rw [← d2]; exact hh.1, by have := hh.2; rw [hco, o1, f2] at this; exact this⟩
  rw [if_neg hcond] at hak2
  have e5 : cTakes c2 g V = c2 := htk c2 rfl (by rw [d6]; exact h.ow) (fun h345 => hov (by rw [d1] at h345; omega)) (by rw [d1]; exact hst9.1)
  rw [hak2] at hnx
  simp only [if_true] at hnx
  rw [e5] at hnx
  obtain ⟨x, hx, -⟩ := cSettle_is c2
  rw [hx] at hnx
  rw [hnx]
  refine ⟨by show qEnd c2.o = _; rw [hco, f2], by show oFin c2.o = _; rw [hco, f1], d2, d7, fun _ => ⟨⟨⟨d10.trans h.ad.la, d11.trans h.ad.lp, d12.trans h.ad.ra, d13.trans h.ad.rp, d14.trans h.ad.iss⟩, d9.trans h.irs, ?_, ?_, d3.trans h.rs, d4.trans h.ag, d5.trans h.pr, d6.trans h.ow, ?_, ?_, ?_, ?_, by omega, ?_, by show 8 ≤ c2.mss ∧ c2.mss ≤ 1000; rw [d7]; exact h.m, ?_, ?_, ?_, h.qok, h.qst, h.qnx, ?_, h.qrd, h.v1⟩, d1⟩, fun hn => absurd hn hfin⟩
  ·show (c2.shut = false ∧ (c2.st = 3 ∨ c2.st = 6)) ∨ (c2.shut = true ∧ (c2.st = 4 ∨ c2.st = 8))
   rw [d1, d2]; exact h.st
  ·show c2.o.cl = c2.shut; rw [hco, o4, d2]
  ·show OqOk c2.o; rw [hco]; exact ack_ok h.ok a
  ·show c2.o.una = a; rw [hco, o1]
  ·show c2.o.cur = C; rw [hco, o2]
  ·show c2.o.sent = C; rw [hco, o3]
  ·show qEnd c2.o ≤ 2097152; rw [hco, f2]; exact hee
  ·show c2.wnd = a + win - a; rw [d8]; omega
  ·show c2.h = _; rw [hch]; show _ = some (q, (⟨c2.mss, _, ℓ⟩ : KWd)); rw [d7]
  ·show c2.mss ≤ _ ∧ _
   rw [d7]
   exact hww
  ·intro h34
   exact hov (by rw [← d1]; exact h34)
theorem FS.ack (h : FS A B s q V U C w E) (hp : AdTo A B) (hg : Ack A B V g a win) (ha : U < a) (hac : a ≤ C) (hw : 1 ≤ win) (hww : w ≤ 50000) :
  qEnd (cIn s g).o = qEnd s.o ∧ oFin (cIn s g).o = oFin s.o ∧ (cIn s g).shut = s.shut ∧ (cIn s g).mss = s.mss ∧
  (¬ (s.shut = true ∧ a = qEnd s.o) → FS A B (cIn s g) q V a C (w + (if a - U < s.mss then a - U else s.mss)) (a + win) ∧ (cIn s g).st = s.st) ∧
  (s.shut = true ∧ a = qEnd s.o → FE A B (cIn s g) q a ∧ ((s.st = 4 ∧ (cIn s g).st = 5) ∨ (s.st = 8 ∧ (cIn s g).st = 0))) := by
 have hm := h.m
 have hw1 := h.w1
 have e : ackZ s.mss w 65535 (a - U) = w + (if a - U < s.mss then a - U else s.mss) := by
  unfold ackZ minZ
  rw [if_pos (show w < 65535 by omega)]
  rw [if_pos (by split <;> omega)]
 have := FSl.ack h hp hg ha hac (by omega) (by rw [e]; split <;> omega)
 rw [e] at this
 exact this
end
def AirF (A B : KAd) (V : Int) (R : Option Int) (m Q D : Int) (cl : Bool) : List KSeg → Int → Int → Int → Int → Nat → Prop
  | [], N, C, U, M, o => N = C ∧ U = M ∧ o = 0
  | g :: l, N, C, U, M, o =>
    (∃ o', Dat A B V R g N ∧ g.fin = (cl && decide (N + sgLen g = Q)) ∧ (sgLen g ≤ m ∨ N + sgLen g = Q) ∧ AirF A B V R m Q D cl l (N + sgLen g) C U M o' ∧ o = o' + (if sgLen g = m then 0 else 1)) ∨
    (∃ a o', Ack A B V g a (D + 2048 - a + (if cl = true ∧ a = Q then 1 else 0)) ∧ U < a ∧ (a - U ≤ m ∨ a = Q) ∧ AirF A B V R m Q D cl l N C a M o' ∧ o = o' + (if a - U = m then 0 else 1))
section
variable {A B : KAd} {s r : KCn} {q : IQ} {N V D a win U C C' w E Z m Q M M' : Int} {fl ow cl : Bool} {g : KSeg} {o o2 : Nat} {ds : List KSeg} {R : Option Int} {W : KWd} {mr : Int} {sr : Bool} {O : OQ}
theorem air_len (hm : 8 ≤ m) : ∀ {l : List KSeg} {N C U M : Int} {o : Nat}, AirF A B V R m Q D cl l N C U M o → N ≤ C ∧ U ≤ M ∧ 8 * (l.length : Int) ≤ (C - N) + (M - U) + 8 * o
  | [], N, C, U, M, o, h => by
    obtain ⟨h1, h2, h3⟩ := h
    simp only [List.length_nil]
    omega
  | g :: l, N, C, U, M, o, h => by
    rcases h with ⟨o', d1, d2, d3, d4, d5⟩ | ⟨a, o', d1, d2, d3, d4, d5⟩
    · obtain ⟨e1, e2, e3⟩ := air_len hm d4
      have h1 := d1.len
      rw [List.length_cons]
      split at d5 <;> omega
    · obtain ⟨e1, e2, e3⟩ := air_len hm d4
      rw [List.length_cons]
      split at d5 <;> omega
theorem air_ack : ∀ {l : List KSeg} {N U M : Int} {o : Nat}, AirF A B V R m Q D cl l N C U M o → M < M' → (M' - M ≤ m ∨ M' = Q) → Ack A B V g M' (D + 2048 - M' + (if cl = true ∧ M' = Q then 1 else 0)) →
    AirF A B V R m Q D cl (l ++ [g]) N C U M' (o + (if M' - M = m then 0 else 1))
  | [], N, U, M, o, h, h1, h2, h3 => by
    obtain ⟨e1, e2, e3⟩ := h
    subst e1 e2 e3
    exact .inr ⟨M', 0, h3, h1, h2, ⟨rfl, rfl, rfl⟩, rfl⟩
  | x :: l, N, U, M, o, h, h1, h2, h3 => by
    rcases h with ⟨o', d1, d2, d3, d4, d5⟩ | ⟨a, o', d1, d2, d3, d4, d5⟩
    · exact .inl ⟨_, d1, d2, d3, air_ack d4 h1 h2 h3, by rw [d5]; omega⟩
    · exact .inr ⟨a, _, d1, d2, d3, air_ack d4 h1 h2 h3, by rw [d5]; omega⟩
theorem air_dats : ∀ {ds : List KSeg} {C C' : Int} {o2 : Nat}, Dats A B V R m Q cl ds C C' o2 → AirF A B V R m Q D cl ds C C' M M o2
 | [], C, C', o2, h => ⟨h.1, rfl, h.2⟩
 | x :: ds, C, C', o2, ⟨o', d1, d2, d3, d4, d5⟩ => .inl ⟨o', d1, d2, d3, air_dats d4, d5⟩
theorem air_more (hd : Dats A B V R m Q cl ds C C' o2) : ∀ {l : List KSeg} {N U : Int} {o : Nat}, AirF A B V R m Q D cl l N C U M o → AirF A B V R m Q D cl (l ++ ds) N C' U M (o + o2)
  | [], N, U, o, h => by
    obtain ⟨e1, e2, e3⟩ := h
    subst e1 e2 e3
    rw [Nat.zero_add]
    exact air_dats hd
  | x :: l, N, U, o, h => by
    rcases h with ⟨o', d1, d2, d3, d4, d5⟩ | ⟨a, o', d1, d2, d3, d4, d5⟩
    · exact .inl ⟨_, d1, d2, d3, air_more hd d4, by rw [d5]; omega⟩
    · exact .inr ⟨a, _, d1, d2, d3, air_more hd d4, by rw [d5]; omega⟩
theorem air_none (hm : 8 ≤ m) {l : List KSeg} {o : Nat} (h : AirF A B V R m Q D cl l N N U U o) : l = [] := by
  cases l with
  | nil => rfl
  | cons g l =>
    rcases h with ⟨o', d1, d2, d3, d4, d5⟩ | ⟨a, o', d1, d2, d3, d4, d5⟩
    · have := (air_len hm d4).1
      have := d1.len
      omega
    · have := (air_len hm d4).2.1
      omega
theorem dats_bd : ∀ {ds : List KSeg} {C C' : Int} {o2 : Nat}, Dats A B V R m Q cl ds C C' o2 → (ds.length : Int) ≤ C' - C
  | [], C, C', o2, h => by have := h.1; simp only [List.length_nil]; omega
  | x :: ds, C, C', o2, ⟨o', d1, d2, d3, d4, d5⟩ => by
    have := dats_bd d4
    have := d1.len
    rw [List.length_cons]
    omega
theorem dats_nil {o2 : Nat} (h : Dats A B V R m Q cl ds C C o2) : ds = [] ∧ o2 = 0 := by
 have := dats_bd h
 have e : ds = [] := List.eq_nil_of_length_eq_zero (by omega)
 subst e
 exact ⟨rfl, h.2⟩
def sgW (g : KSeg) : Nat := if 1 ≤ sgLen g then 2 else 1
def wtA : List KSeg → Nat
 | [] => 0
 | g :: l => sgW g + wtA l
theorem wt_app : ∀ (l l' : List KSeg), wtA (l ++ l') = wtA l + wtA l'
 | [], l' => by simp [wtA]
 | g :: l, l' => by simp only [List.cons_append, wtA, wt_app l l']; omega
theorem wt_dats : ∀ {ds : List KSeg} {C C' : Int} {o2 : Nat}, Dats A B V R m Q cl ds C C' o2 → wtA ds = 2 * ds.length
  | [], C, C', o2, h => rfl
  | x :: ds, C, C', o2, ⟨o', d1, d2, d3, d4, d5⟩ => by
    have := wt_dats d4
    have h1 := d1.len
    simp only [wtA, sgW, if_pos h1, List.length_cons, this]
    omega
theorem ack_len (h : Ack A B V g a win) : sgLen g = 0 := by unfold sgLen; rw [h.syn, h.fin, h.b]; rfl
structure FIr (A B : KAd) (q : IQ) (V D : Int) (R : Option Int) (W : KWd) (mr : Int) (sr : Bool) (O : OQ) (s r : KCn) (air : List KSeg) (U C N w E : Int) (o : Nat) : Prop where
 fs : FS A B s q V U C w E
 fr : FR A B r N V D R W mr sr O (s.shut && decide (N = qEnd s.o)) false
 air : AirF A B V R s.mss (qEnd s.o) D s.shut air N C U N o
 ex : C = qEnd s.o ∨ C = U + w
 od : o ≤ (if C = qEnd s.o then 2 else 1)
 w : w ≤ 30000 + U
 nf : s.shut = true → U < qEnd s.o
 rw_ : ∀ x, R = some x → 2048 - (endZ q - q.rd) = x
 q2 : 1500 ≤ E
 q1 : qEnd s.o ≤ D + 2047 ∧ qEnd s.o ≤ 1100
def FI (A B : KAd) (q : IQ) (V D : Int) (R : Option Int) (W : KWd) (mr : Int) (sr : Bool) (O : OQ) (s r : KCn) (air : List KSeg) : Prop :=
 (∃ U C N w E o, FIr A B q V D R W mr sr O s r air U C N w E o) ∨ (FE A B s q (qEnd s.o) ∧ FR A B r (qEnd s.o) V D R W mr sr O true false ∧ air = [])
def muF (s : KCn) (air : List KSeg) : Nat := 2 * (qEnd s.o - s.o.cur).toNat + wtA air
variable {l : List KSeg}
theorem FR.none (h : FR A B r N V D R W mr sr O fl false) (hw : 0 ≤ 2048 - (N - (if fl then 1 else 0) - D) ∧ 2048 - (N - (if fl then 1 else 0) - D) ≤ 65535) (hp : okP B.lp ∧ okP B.rp) : FR A B (cOut r).1 N V D R W mr sr O fl false ∧ (cOut r).2 = [] := by
 obtain ⟨h1, h2⟩ := h.out hw hp
 rcases h2 with ⟨_, h2⟩ | ⟨h2, _⟩
 ·exact ⟨h1, h2⟩
 ·cases h2
theorem FIr.rd {ar : List KSeg} (h : FIr A B q V D R W mr sr O s r ar U C N w E o) : D ≤ N ∧ N ≤ C ∧ C ≤ qEnd s.o ∧ U ≤ N ∧ 1 ≤ D := by
 obtain ⟨q', hh, ok, hn, hc, ho, hrd⟩ := h.fr.h
 have h1 := ok.rdn
 have h2 := ok.rd1
 have hl := air_len h.fs.m.1 h.air
 have h3 := h.fs.ok.ee
 have h4 := h.fs.sent
 refine ⟨?_, hl.1, by omega, hl.2.1, by omega⟩
 split at h1 <;> omega
theorem FIr.step (h : FIr A B q V D R W mr sr O s r (g :: l) U C N w E o) (hp : AdTo A B) (hs : COk s) (hs1 : COk (cIn s g)) :
  ((g.ta = B.la ∧ g.tp = B.lp ∧ (cOut s).2 = [] ∧ FI A B q V D R W mr sr O (cOut s).1 (cOut (cIn r g)).1 (l ++ (cOut (cIn r g)).2) ∧ muF (cOut s).1 (l ++ (cOut (cIn r g)).2) < muF s (g :: l) ∧ (l ++ (cOut (cIn r g)).2).length < 200) ∧ qEnd (cOut s).1.o = qEnd s.o ∧ (cOut s).1.shut = s.shut ∧ ((cOut s).1.st = s.st)) ∨
  ((g.ta = A.la ∧ g.tp = A.lp ∧ (cOut r).2 = [] ∧ FI A B q V D R W mr sr O (cOut (cIn s g)).1 (cOut r).1 (l ++ (cOut (cIn s g)).2) ∧ muF (cOut (cIn s g)).1 (l ++ (cOut (cIn s g)).2) < muF s (g :: l) ∧ (l ++ (cOut (cIn s g)).2).length < 200) ∧ qEnd (cOut (cIn s g)).1.o = qEnd s.o ∧ (cOut (cIn s g)).1.shut = s.shut ∧ ((cOut (cIn s g)).1.st = s.st ∨ (s.shut = true ∧ (s.st = 4 ∧ (cOut (cIn s g)).1.st = 5 ∨ s.st = 8 ∧ (cOut (cIn s g)).1.st = 0)))) := by
 obtain ⟨r1, r2, r3, r4, r5⟩ := h.rd
 have hm := h.fs.m
 have hu1 := h.fs.u1
 have hq1 := h.q1
 have hpb : okP B.lp ∧ okP B.rp := ⟨by rw [hp.lp]; exact hp.p1, by rw [hp.rp]; exact hp.p0⟩
 have hcur := h.fs.cur
 have hw1 := h.fs.w1
 have hfw := h.w
 obtain ⟨Q, hQ⟩ : ∃ z, z = qEnd s.o := ⟨_, rfl⟩
 have hair := h.air
 have hex := h.ex
 have hod := h.od
 have hnf := h.nf
 have hfr := h.fr
 rw [← hQ] at hair hex hod hnf hfr hq1 r3
 rcases hair with ⟨o', d1, d2, d3, d4, d5⟩ | ⟨a, o', d1, d2, d3, d4, d5⟩
 ·left
  have hL := d1.len
  obtain ⟨l1, l2, l3⟩ := air_len hm.1 d4
  have hsl := ba_size_len g d1.syn
  have hbs : (g.b.size : Int) ≤ sgLen g := by rw [hsl]; split <;> omega
  rw [show (s.shut && decide (N = Q)) = false from by rw [decide_eq_false (by omega), Bool.and_false]] at hfr
  have k1 := hfr.data hp d1 (by omega) (by omega) (by omega)
  obtain ⟨k2, k3⟩ := k1.out (by cases g.fin <;> simp <;> omega) hpb
  obtain ⟨C', o2, n1, n2, n3, n4, n5, n6, n7, n8, n9⟩ := h.fs.out h.rw_ hp hs
  have hlim : sLim s U w E ≤ C := by
   unfold sLim
   have hle := oLim_le (q := s.o) (U + (if w < E - U then w else E - U))
   rcases hex with e | e
   ·omega
   ·have : (if w < E - U then w else E - U) ≤ w := by split <;> omega
    omega
  have hCC : C' = C := by rw [n3, if_neg (by omega)]
  subst hCC
  obtain ⟨e1, e2⟩ := dats_nil n2
  rcases k3 with ⟨k3, _⟩ | ⟨_, g', k4, k5⟩
  ·cases k3
  have hfin : (2048 - (N + sgLen g - (if g.fin = true then 1 else 0) - D)) = D + 2048 - (N + sgLen g) + (if s.shut = true ∧ N + sgLen g = Q then 1 else 0) := by
   rw [d2]
   by_cases hc : s.shut = true ∧ N + sgLen g = Q
   ·rw [if_pos hc, hc.1, decide_eq_true hc.2]; simp; omega
   ·rw [if_neg hc]
    have : (s.shut && decide (N + sgLen g = Q)) = false := by
     cases hsh : s.shut with
     | false => rfl
     | true => rw [Bool.true_and]; exact decide_eq_false (fun e => hc ⟨hsh, e⟩)
    rw [this]; simp; omega
  rw [hfin] at k5
  have k6 := air_ack d4 (M' := N + sgLen g) (by omega) (by omega) k5
  have ho : o' + (if N + sgLen g - N = s.mss then 0 else 1) = o := by
   rw [d5, show N + sgLen g - N = sgLen g by omega]
  rw [ho] at k6
  obtain ⟨a1, a2, a3, a4⟩ := d1.ad
  have hlen := air_len hm.1 k6
  have hod2 : o ≤ 2 := by split at hod <;> omega
  rw [k4]
  refine ⟨⟨a3.trans hp.la.symm, a4.trans hp.lp.symm, e1, .inl ⟨U, C', N + sgLen g, w, E, o, n1, ?_, ?_, ?_, ?_, h.w, ?_, h.rw_, ?_, ?_⟩, ?_, by omega⟩, n4, n5, n7⟩
  ·rw [n4, n5, ← hQ, ← d2]; exact k2
  ·rw [n4, n5, n6, ← hQ]; exact k6
  ·rw [n4, ← hQ]; exact hex
  ·rw [n4, ← hQ]; exact hod
  ·rw [n4, n5, ← hQ]; exact hnf
  ·exact h.q2
  ·rw [n4, ← hQ]; exact hq1
  ·unfold muF
   rw [n4, n1.cur, hcur, wt_app]
   have w1 : sgW g = 2 := by unfold sgW; rw [if_pos hL]
   have w2 : sgW g' = 1 := by unfold sgW; rw [ack_len k5]; rfl
   simp only [wtA, w1, w2]
   omega
 ·right
  obtain ⟨l1, l2, l3⟩ := air_len hm.1 d4
  have hex1 : 0 ≤ (if s.shut = true ∧ a = Q then (1 : Int) else 0) ∧ (if s.shut = true ∧ a = Q then (1 : Int) else 0) ≤ 1 := by split <;> omega
  obtain ⟨f1, f2, f3, f4, f5, f6⟩ := h.fs.ack hp d1 d2 (by omega) (by omega) (by omega)
  obtain ⟨b1, b2⟩ := hfr.none (by cases (s.shut && decide (N = Q)) <;> simp <;> omega) hpb
  obtain ⟨a1, a2, a3, a4⟩ := d1.ad
  rw [← hQ] at f1 f5 f6
  have hwg : sgW g = 1 := by unfold sgW; rw [ack_len d1]; rfl
  by_cases hfin : s.shut = true ∧ a = Q
  ·obtain ⟨f7, f8⟩ := f6 hfin
   have hN : N = Q ∧ C = Q := by omega
   have hl : l = [] := by
    have h2 := d4
    rw [hN.1, hN.2, hfin.2] at h2
    exact air_none hm.1 h2
   obtain ⟨e1, e2, e3⟩ := f7.out
   have e4 : qEnd (cOut (cIn s g)).1.o = Q := e1.end_.trans hfin.2
   have e5 : (cOut (cIn s g)).1.shut = s.shut := e1.sh.trans hfin.1.symm
   rw [e2, hl]
   refine ⟨⟨a3.trans hp.ra, a4.trans hp.rp, b2, .inr ⟨?_, ?_, rfl⟩, ?_, by decide⟩, by rw [e4, hQ], e5, .inr ⟨hfin.1, by rw [e3]; exact f8⟩⟩
   ·rw [e4, ← hfin.2]; exact e1
   ·rw [e4]
    rw [hfin.1, decide_eq_true hN.1] at b1
    rw [← hN.1]; exact b1
   ·unfold muF
    rw [e4, e1.cur, ← hQ, hcur, hfin.2]
    simp only [List.append_nil, wtA, hwg]
    omega
  ·obtain ⟨f7, f8⟩ := f5 hfin
   rw [if_neg hfin, show a + (D + 2048 - a + 0) = D + 2048 by omega] at f7
   obtain ⟨w1, hw1'⟩ : ∃ z, z = w + (if a - U < s.mss then a - U else s.mss) := ⟨_, rfl⟩
   rw [← hw1'] at f7
   obtain ⟨C', o2, n1, n2, n3, n4, n5, n6, n7, n8, n9⟩ := f7.out h.rw_ hp hs1
   have hlim : sLim (cIn s g) a w1 (D + 2048) = (if a + w1 < Q then a + w1 else Q) := by
    unfold sLim oLim
    rw [f1]
    split <;> split <;> first | omega | (split <;> omega)
   rw [f1] at n2 n4
   rw [f4] at n2 n6 n9
   rw [f3] at n2 n5
   rw [f2, hlim] at n9
   rw [hlim] at n3
   have hwb : w1 ≤ w + (a - U) ∧ w + 1 ≤ w1 := by rw [hw1']; split <;> omega
   have hqf := qEnd_bd (q := s.o)
   rw [← hQ] at hqf
   have hodd : o' + o2 ≤ (if C' = Q then 2 else 1) := by
    by_cases hCQ : C = Q
    ·have hC' : C' = C := by rw [n3, if_neg (by split <;> omega)]
     rw [hC'] at n2
     obtain ⟨_, e2⟩ := dats_nil n2
     rw [if_pos hCQ] at hod
     rw [hC', if_pos hCQ, e2]
     split at d5 <;> omega
    ·rw [if_neg hCQ] at hod
     have hCU : C = U + w := by omega
     by_cases hk : a - U = s.mss
     ·rw [if_pos hk] at d5
      by_cases hC'Q : C' = Q
      ·rw [if_pos hC'Q]; omega
      ·rw [if_neg hC'Q]
       have hww : w1 = w + s.mss := by rw [hw1', if_neg (by omega)]
       have hlt : a + w1 < Q := by
        by_cases hc : a + w1 < Q
        ·exact hc
        ·rw [if_neg hc, if_pos (by omega)] at n3; omega
       rw [if_pos hlt] at n9
       have := n9 (by omega) (by
        rw [show a + w1 - C = s.mss + s.mss by omega, Int.add_emod_right, Int.emod_self])
       omega
     ·rw [if_neg hk] at d5
      split <;> omega
   have hexn : C' = Q ∨ C' = a + w1 := by
    by_cases hc : C < (if a + w1 < Q then a + w1 else Q)
    ·rw [if_pos hc] at n3
     split at n3 <;> omega
    ·rw [if_neg hc] at n3
     left
     rcases hex with e | e
     ·omega
     ·split at hc <;> omega
   have hCC : C ≤ C' ∧ C' ≤ Q := by
    rw [n3]; split
    ·split <;> omega
    ·omega
   have k6 := air_more n2 d4
   have hlen := air_len hm.1 k6
   have hod2 : o' + o2 ≤ 2 := by split at hodd <;> omega
   refine ⟨⟨a3.trans hp.ra, a4.trans hp.rp, b2, .inl ⟨a, C', N, w1, D + 2048, o' + o2, n1, ?_, ?_, ?_, ?_, by omega, ?_, h.rw_, ?_, ?_⟩, ?_, by omega⟩, by rw [n4, hQ], n5, .inl (n7.trans f8)⟩
   ·rw [n4, n5]; exact b1
   ·rw [n4, n5, n6]; exact k6
   ·rw [n4]; exact hexn
   ·rw [n4]; exact hodd
   ·rw [n4, n5]
    intro hsh
    have : a ≠ Q := fun e => hfin ⟨hsh, e⟩
    omega
   ·omega
   ·rw [n4]; exact hq1
   ·unfold muF
    rw [n4, n1.cur, ← hQ, hcur, wt_app, wt_dats n2]
    have := dats_bd n2
    simp only [wtA, hwg]
    omega
theorem FIr.done (h : FIr A B q V D R W mr sr O s r [] U C N w E o) : s.shut = false ∧ U = qEnd s.o ∧ C = qEnd s.o ∧ N = qEnd s.o := by
 obtain ⟨e1, e2, e3⟩ := h.air
 have h1 := h.ex
 have h2 := h.fs.w1
 have h3 := h.fs.m
 have h4 : C = qEnd s.o := by omega
 refine ⟨?_, by omega, h4, by omega⟩
 cases hs : s.shut with
 | false => rfl
 | true => have := h.nf hs; omega
theorem FI.start (hR : ∀ x, R = some x → 2048 - (endZ q - q.rd) = x) (h : FS A B s q V U U w E) (hr : FR A B r U V D R W mr sr O false false) (hp : AdTo A B) (hs : COk s) (hw : w ≤ 30000 + U) (hE : 1500 ≤ E) (hq : qEnd s.o ≤ D + 2047 ∧ qEnd s.o ≤ 1100) (hsh : s.shut = true → U < qEnd s.o) :
  FI A B q V D R W mr sr O (cOut s).1 (cOut r).1 ((cOut s).2 ++ (cOut r).2) ∧ (cOut r).2 = [] ∧ (muF (cOut s).1 (cOut s).2 : Int) ≤ 2 * (qEnd s.o - U) ∧ (cOut s).2.length < 200 ∧ qEnd (cOut s).1.o = qEnd s.o ∧ (cOut s).1.shut = s.shut ∧ (cOut s).1.st = s.st := by
 have hpb : okP B.lp ∧ okP B.rp := ⟨by rw [hp.lp]; exact hp.p1, by rw [hp.rp]; exact hp.p0⟩
 have hu := h.u1
 have hm := h.m
 have hw1 := h.w1
 have hU : U ≤ qEnd s.o := by have h1 := h.ok.ee; have h2 := h.sent; omega
 have hDU : D ≤ U := by
  obtain ⟨q', hh, ok, hn, hc, ho, hrd⟩ := hr.h
  have := (ok_open ok ho).1
  omega
 obtain ⟨b1, b2⟩ := hr.none (by simp; omega) hpb
 obtain ⟨C', o, n1, n2, n3, n4, n5, n6, n7, n8, n9⟩ := h.out hR hp hs
 have hq1 := hq.2
 have hlim : sLim s U w E = (if U + w < qEnd s.o then U + w else qEnd s.o) := by
  unfold sLim oLim
  split <;> split <;> first | omega | (split <;> omega)
 rw [hlim] at n3
 have hair := air_dats (D := D) (M := U) n2
 have hlen := air_len hm.1 hair
 have hCC : U ≤ C' ∧ C' ≤ qEnd s.o := by
  rw [n3]; split
  ·split <;> omega
  ·omega
 have hex : C' = qEnd s.o ∨ C' = U + w := by
  by_cases hc : U < (if U + w < qEnd s.o then U + w else qEnd s.o)
  ·rw [if_pos hc] at n3
   split at n3 <;> omega
  ·rw [if_neg hc] at n3
   split at hc <;> omega
 rw [b2, List.append_nil]
 refine ⟨.inl ⟨U, C', U, w, E, o, n1, ?_, ?_, ?_, ?_, by omega, ?_, hR, ?_, ?_⟩, rfl, ?_, by omega, n4, n5, n7⟩
 ·rw [n4, n5]
  have : (s.shut && decide (U = qEnd s.o)) = false := by
   cases hs2 : s.shut with
   | false => rfl
   | true => rw [Bool.true_and]; exact decide_eq_false (by have := hsh hs2; omega)
  rw [this]; exact b1
 ·rw [n4, n5, n6]; exact hair
 ·rw [n4]; exact hex
 ·split <;> omega
 ·rw [n4, n5]; exact hsh
 ·exact hE
 ·rw [n4]; exact hq
 ·unfold muF
  rw [n4, n1.cur, wt_dats n2]
  have := dats_bd n2
  omega
end
structure KGh where
 T0 : ByteArray
 T1 : ByteArray
 G0 : ByteArray
 G1 : ByteArray
 s0 : Bool
 s1 : Bool
def ghP (h : KGh) (p : KPa) : KPa := { p with w0 := h.T0, w1 := h.T1, g0 := h.G0, g1 := h.G1, s0 := h.s0, s1 := h.s1, br := false }
def gh (h : KGh) (x : KPr) : KPr := ⟨x.a, x.b, ghP h x.p⟩
theorem gh_step (h : KGh) (i : Bool) (p : KPa) (g : KSeg) : sdStep i (ghP h p) g = ghP h (sdStep i p g) := by
 cases i with
 | true => rw [stepT, stepT]; rfl
 | false => rw [stepF, stepF]; rfl
theorem gh_ok (h : KGh) (i : Bool) (p : KPa) (g : KSeg) : sdOk i (ghP h p) g = sdOk i p g := by
 cases i <;> rfl
theorem gh_list (h : KGh) (i : Bool) : ∀ (l : List KSeg) (p : KPa), sdList i (ghP h p) l = (sdList i p l).map (ghP h)
  | [], p => rfl
  | g :: l, p => by
    unfold sdList
    rw [gh_ok, gh_step]
    by_cases hc : sdOk i p g = true
    · rw [if_pos hc, if_pos hc]; exact gh_list h i l _
    · rw [if_neg hc, if_neg hc]; rfl
theorem gh_sends (h : KGh) (x : KPr) : sends (gh h x) = (sends x).map (gh h) := by
  unfold sends
  show (match sdList true (ghP h x.p) (cOut x.a).2 with | none => none | some p1 => match sdList false p1 (cOut x.b).2 with | none => none | some p2 => some (⟨(cOut x.a).1, (cOut x.b).1, p2⟩ : KPr)) = _
  rw [gh_list]
  cases e1 : sdList true x.p (cOut x.a).2 with
  | none => rfl
  | some p1 =>
    show (match sdList false (ghP h p1) (cOut x.b).2 with | none => none | some p2 => some (⟨(cOut x.a).1, (cOut x.b).1, p2⟩ : KPr)) = _
    rw [gh_list]
    cases e2 : sdList false p1 (cOut x.b).2 with
    | none =>
      simp only [Option.map_none]
      rw [e2]
      rfl
    | some p2 =>
      simp only [Option.map_some]
      rw [e2]
      rfl
theorem sd_air (i : Bool) : ∀ (l : List KSeg) (p q : KPa), sdList i p l = some q → q.air = l.foldl airP p.air ∧ q.br = p.br
  | [], p, q, h => by
    have e : p = q := by simpa [sdList] using h
    subst e
    exact ⟨rfl, rfl⟩
  | g :: l, p, q, h => by
    unfold sdList at h
    split at h
    · obtain ⟨h1, h2⟩ := sd_air i l _ q h
      cases i with
      | true => rw [stepT] at h1 h2; exact ⟨h1, h2⟩
      | false => rw [stepF] at h1 h2; exact ⟨h1, h2⟩
    · cases h
theorem sends_outs {x y : KPr} (h : sends x = some y) : y.a = (cOut x.a).1 ∧ y.b = (cOut x.b).1 ∧ y.p.air = ((cOut x.b).2).foldl airP (((cOut x.a).2).foldl airP x.p.air) ∧ y.p.br = x.p.br := by
  unfold sends at h
  cases e1 : sdList true x.p (cOut x.a).2 with
  | none => rw [e1] at h; cases h
  | some p1 =>
    rw [e1] at h
    dsimp only at h
    cases e2 : sdList false p1 (cOut x.b).2 with
    | none => rw [e2] at h; cases h
    | some p2 =>
      rw [e2] at h
      injection h with h
      subst h
      obtain ⟨h1, h2⟩ := sd_air true _ _ _ e1
      obtain ⟨h3, h4⟩ := sd_air false _ _ _ e2
      exact ⟨rfl, rfl, by rw [← h1]; exact h3, h4.trans h2⟩
theorem airP_app : ∀ (ds l : List KSeg), (l ++ ds).length ≤ 200 → ds.foldl airP l = l ++ ds
  | [], l, _ => (List.append_nil l).symm
  | g :: ds, l, h => by
    have e : airP l g = l ++ [g] := by
      unfold airP
      rw [if_pos]
      rw [List.length_append, List.length_cons] at h
      omega
    rw [List.foldl_cons, e, airP_app ds (l ++ [g]) (by rw [List.append_assoc]; exact h), List.append_assoc]
    rfl
theorem come_l (x : KPr) (g : KSeg) (l : List KSeg) : come ⟨x.a, x.b, { x.p with air := l }⟩ g = ⟨(come x g).a, (come x g).b, { (come x g).p with air := l }⟩ := by
 unfold come; split <;> rfl
theorem come_gh (h : KGh) (x : KPr) (g : KSeg) : come (gh h x) g = gh h (come x g) := by
 unfold come
 show (if g.ta = 2 ∧ g.tp = 80 then _ else _) = _
 split <;> rfl
section
variable {iss irs : Int} {N : Nat} {t : Int} {h : KGh} {x : KPr} {g : KSeg} {l : List KSeg}
theorem PI.ciA {x : KPr} (h : PI iss irs N t x) : CI x.a t := by obtain ⟨_, _, hx⟩ := h.h; exact PH.ca hx
theorem PI.ciB {x : KPr} (h : PI iss irs N t x) : CI x.b t := by obtain ⟨_, _, hx⟩ := h.h; exact PH.cb hx
theorem qok_pi (hP : PI iss irs N t (gh h x)) (hair : x.p.air = g :: l) (ht : t ≤ 100000000) :
  ∃ z, QOk x g l z ∧ PI iss irs N (t + 1) (gh h z) ∧ sends (come ⟨x.a, x.b, { x.p with air := l }⟩ g) = some z := by
 have hg : g ∈ (gh h x).p.air := by show g ∈ x.p.air; rw [hair]; exact List.mem_cons_self ..
 have h1 := hP.come hg (by omega)
 have hlen := hP.len
 have hlx : ((gh h x).p.air.length : Int) = l.length + 1 := by show (x.p.air.length : Int) = _; rw [hair]; rfl
 rw [hlx] at hlen
 have hcp : (come (gh h x) g).p = (gh h x).p := by unfold come; split <;> rfl
 have h2 := h1.few (l := l) (fun y hy => by rw [hcp]; show y ∈ x.p.air; rw [hair]; exact List.mem_cons_of_mem _ hy) (by omega)
 have e2 : (⟨(come (gh h x) g).a, (come (gh h x) g).b, { (come (gh h x) g).p with air := l }⟩ : KPr) = gh h (come ⟨x.a, x.b, { x.p with air := l }⟩ g) := by
  rw [come_gh, come_l x g l]; rfl
 rw [e2] at h2
 obtain ⟨y, hy, hPy, hsa, hsb⟩ := h2.sends
 rw [gh_sends] at hy
 obtain ⟨z, hz, rfl⟩ := Option.map_eq_some_iff.1 hy
 have hsg : SegOk g := by obtain ⟨_, _, hx⟩ := hP.h; exact PH.aok hx g hg
 have hok := h2.ok
 refine ⟨z, ⟨t + 1, by omega, hP.ciA.mono (by omega), hP.ciB.mono (by omega), hsg, h2.ciA, h2.ciB, ⟨hok.e0, hok.e1⟩, ?_, hz, hsa, hsb⟩, hPy, hz⟩
 have : (come ⟨x.a, x.b, { x.p with air := l }⟩ g).p.air = l := by rw [come_l x g l]
 rw [this]
 omega
def adA (iss : Int) : KAd := ⟨1, 40000, 2, 80, iss⟩
def adB (irs : Int) : KAd := ⟨2, 80, 1, 40000, irs⟩
theorem ad_to (iss irs : Int) : AdTo (adA iss) (adB irs) := ⟨rfl, rfl, rfl, rfl, (by decide : (0 : Int) < 40000 ∧ (40000 : Int) ≤ 65535), (by decide : (0 : Int) < 80 ∧ (80 : Int) ≤ 65535), (by decide : (0 : Int) ≤ 1 ∧ (1 : Int) ≤ 4294967295), (by decide : (0 : Int) ≤ 2 ∧ (2 : Int) ≤ 4294967295)⟩
end
end Go.Proofs.Ytfpifahkpkjfgaa
