/- What ConnStops needs, a part: CnKi, CnKk, CnFh, CnKl, CnKf. -/
import Derived.Test.YtfpifahkpkjfgaaMConnStops44
import Derived.Test.YtfpifahkpkjfgaaMConnStops45
namespace Go.Proofs.Ytfpifahkpkjfgaa
open Go.RowKit Go.Lib
set_option linter.unusedVariables false
set_option linter.unusedSimpArgs false
section
variable {A B : KAd} {s : KCn} {q : IQ} {V U w E ℓ : Int} {R : Option Int}
theorem FSl.probe (h : FSl A B s q V U U w E ℓ) (hq : U < qEnd s.o) (hE : E = U) (hs : s.shut = false) (hR : ∀ x, R = some x → 2048 - (endZ q - q.rd) = x) (hp : AdTo A B) :
  ∃ s1 g, cOut { s with probe := true } = (s1, [g]) ∧ FSl A B s1 q V U (U + 1) w U ℓ ∧ Dat A B V R g U ∧ g.fin = false ∧ sgLen g = 1 ∧ s1 = { s with o := s1.o, clock := s1.clock, meas := s1.meas, wh := s1.wh, probe := false } ∧ qEnd s1.o = qEnd s.o := by
 subst hE
 have h1 := h.una
 have h2 := h.cur
 have h3 := h.u1
 have h4 := h.wnd
 have hm := h.m
 have hw := h.w1
 obtain ⟨t, ht⟩ : ∃ z : KCn, z = { s with probe := true } := ⟨_, rfl⟩
 have hl : cLimit t = E + 1 := by
  rw [ht]
  unfold cLimit
  dsimp only
  rw [if_neg (by omega), h.wd, h1, h4]
  simp
  omega
 have hi : cIsP s (E + 1) = true := by
  show oIs s.o s.o.cur (E + 1) s.mss = true
  unfold oIs oLim
  rw [h2, decide_eq_true (show E < (if E + 1 < qEnd s.o then E + 1 else qEnd s.o) by split <;> omega), decide_eq_true (show (1 : Int) ≤ s.mss by omega)]
  rfl
 obtain ⟨k1, k2, k3, k4⟩ := h.piece hR hp hi
 have hF : oFin s.o = qEnd s.o := by
  have := h.cl
  rw [hs] at this
  unfold qEnd; rw [this]; rfl
 have hlim : oLim s.o (E + 1) = E + 1 := by unfold oLim; split <;> omega
 have hsz : sgLen (cSegm s (cPc s (E + 1))) = 1 := by
  rw [k4, hlim, hF]
  split <;> split <;> omega
 rw [hsz] at k1
 rw [hs, Bool.false_and] at k3
 obtain ⟨u, hu⟩ : ∃ z : KCn, z = cStep s (E + 1) := ⟨_, rfl⟩
 have hst : u = { s with o := u.o, meas := u.meas, wh := u.wh } := by
  rw [hu]; unfold cStep; split <;> rfl
 have huq : qEnd u.o = qEnd s.o := by rw [hu]; unfold cStep; split <;> rfl
 have htu : cStep t (E + 1) = { u with probe := true } := by
  rw [ht, hu]
  unfold cStep
  show (if (cPc s (E + 1)).at_ = s.o.sent ∧ s.meas = 0 then _ else _ : KCn) = _
  by_cases hc : (cPc s (E + 1)).at_ = s.o.sent ∧ s.meas = 0
  ·rw [if_pos hc, if_pos hc]
  ·rw [if_neg hc, if_neg hc]
 rw [← hu] at k1
 have hi2 : cIsP { u with probe := true } (E + 1) = false := by
  show oIs u.o u.o.cur (E + 1) u.mss = false
  unfold oIs oLim
  rw [k1.cur, huq, decide_eq_false (show ¬ E + 1 < (if E + 1 < qEnd s.o then E + 1 else qEnd s.o) by split <;> omega), Bool.false_and]
 have hloop : cLoop 2100 t (E + 1) [] = ({ u with probe := true }, [cSegm s (cPc s (E + 1))]) := by
  have e1 : cLoop 2100 t (E + 1) [] = if cIsP t (E + 1) = true then cLoop 2099 (cStep t (E + 1)) (E + 1) ([] ++ [cSegm t (cPc t (E + 1))]) else (t, []) := rfl
  have e2 : cIsP t (E + 1) = true := by rw [ht]; exact hi
  have e3 : cSegm t (cPc t (E + 1)) = cSegm s (cPc s (E + 1)) := by rw [ht]; rfl
  rw [e1, if_pos e2, e3, htu, List.nil_append]
  have e4 : ∀ (c : KCn) (l : List KSeg), cIsP c (E + 1) = false → cLoop 2099 c (E + 1) l = (c, l) := by
   intro c l hc
   show (if cIsP c (E + 1) = true then _ else _) = _
   rw [if_neg (by rw [hc]; decide)]
  exact e4 _ _ hi2
 obtain ⟨x, hx, -⟩ := cSettle_is { u with owed := false, again := false, probe := false }
 have e : cOut t = ({ u with owed := false, again := false, probe := false, clock := x }, [cSegm s (cPc s (E + 1))]) := by
  have e0 : ({ t with rs := [] } : KCn) = t := by
   have hr : t.rs = [] := by rw [ht]; exact h.rs
   obtain ⟨⟩ := t
   simp only at hr
   subst hr
   rfl
  have hr : t.rs = [] := by rw [ht]; exact h.rs
  have hst0 : t.st ≠ 0 := by rw [ht]; exact h.st0.1
  have e1 : cFirstL t ([].map (cRst t)) = [] := by
   unfold cFirstL
   rw [if_neg (by rw [ht]; show ¬ (s.again = true ∧ _); rw [h.ag]; exact fun h => by cases h.1)]
   rfl
  have e2 : cOut t = cTail ({ u with probe := true }, [cSegm s (cPc s (E + 1))]) 0 := by
   unfold cOut
   conv => lhs; dsimp only
   rw [if_neg hst0, e0, hr, e1, hl, hloop]
   rfl
  rw [e2]
  unfold cTail
  dsimp only
  rw [k1.ow]
  exact Prod.ext hx rfl
 rw [ht] at e
 refine ⟨_, _, e, k1.of x u.meas u.wh rfl, k2, k3, hsz, ?_, huq⟩
 have ho : u.owed = s.owed ∧ u.again = s.again := by rw [hst]; exact ⟨rfl, rfl⟩
 have h5 := h.ow
 have h6 := h.ag
 rw [hst]
 obtain ⟨⟩ := s
 simp only at h5 h6
 subst h5 h6
 rfl
variable {r : KCn} {N D mr : Int} {W : KWd} {sr ow : Bool} {O : OQ} {R' : Option Int} {g : KSeg}
theorem FR.refuse (h : FR A B r N V D R W mr sr O false ow) (hp : AdTo A B) (hg : Dat A B V R' g N) (hL : sgLen g ≤ 2000) (hN : N = D + 2048) : FR A B (cIn r g) N V D R W mr sr O false true ∧ cIn r g = { r with owed := true, clock := -1 } := by
 obtain ⟨e1, e2, e3⟩ := h.cq
 have hlen := hg.len
 have hn1 := h.n1
 have hcs : g.seq = u32 (r.irs + N) := by rw [hg.seq, h.irs]
 have hin : cInE r g = 0 := by
  unfold cInE
  obtain ⟨a1, a2, a3, a4⟩ := hg.ad
  rw [if_neg (fun e => e hg.chk), if_neg (fun e => e ⟨by rw [a1, h.ad.ra, hp.ra], by rw [a2, h.ad.rp, hp.rp], by rw [a3, h.ad.la, hp.la], by rw [a4, h.ad.lp, hp.lp]⟩), if_neg h.st0.1]
 have hac : accB g.seq (sgLen g) (cWant r) (cRoomI r) = false := by
  rw [hcs, want_is, e1, e2, acc_is (by omega) (by omega) (by omega) (by simp; omega)]
  refine decide_eq_false ?_
  unfold accP
  rw [if_neg (by omega)]
  simp only [if_false, Bool.false_eq_true]
  omega
 have hst := h.st
 have h9 : r.st ≠ 9 := by cases sr <;> simp at hst <;> omega
 have e : cIn r g = { r with owed := true, clock := -1 } := by
  unfold cIn
  rw [if_neg (fun e => e hin), if_neg h.st0.2.1]
  unfold cNext
  rw [if_pos hac, if_neg (fun e => h9 e.1), hg.rst]
  have : (r.owed || !false) = true := by cases r.owed <;> rfl
  rw [this]
  exact settle_off (c := { r with owed := true }) (.inr (.inr h.rest))
 rw [e]
 exact ⟨⟨⟨h.ad.la, h.ad.lp, h.ad.ra, h.ad.rp, h.ad.iss⟩, h.irs, h.st, h.sh, (fun e => by cases e), h.pr, h.oc, h.rs, h.ag, rfl, h.una, h.cur, h.sent, h.end_, h.v1, h.n1, h.wn, h.ms, h.h⟩, rfl⟩
end
theorem settle_id {c : KCn} (h0 : c.st ≠ 0) (h9 : c.st ≠ 9) (hw : cWaits c) (hc : 0 ≤ c.clock) : cSettle c = c := by
 unfold cSettle
 rw [if_neg (by
  rintro (h | h | h)
  ·exact h0 h
  ·exact h9 h
  ·exact h hw), if_neg (by omega)]
section
variable {A B : KAd} {s : KCn} {q : IQ} {V U C w E ℓ : Int} {R : Option Int} {g : KSeg}
theorem FSl.st9 (h : FSl A B s q V U C w E ℓ) : s.st ≠ 9 := by rcases h.st with ⟨_, e | e⟩ | ⟨_, e | e⟩ <;> omega
theorem FSl.wt (h : FSl A B s q V U C w U ℓ) (hq : U < C ∨ C < qEnd s.o) : cWaits s := by
 have h1 := h.una
 have h2 := h.cur
 have h3 := h.u1
 have h4 := h.wnd
 have h5 := h.ok.cs
 rcases hq with hq | hq
 ·left; omega
 ·right; exact ⟨by omega, by omega, by omega⟩
theorem FSl.plain (h : FSl A B s q V U C w E ℓ) : ({ s with owed := false, again := false, probe := false } : KCn) = s := by
 have h1 := h.ow
 have h2 := h.ag
 have h3 := h.pr
 obtain ⟨⟩ := s
 simp only at h1 h2 h3
 subst h1 h2 h3
 rfl
theorem FSl.mute (h : FSl A B s q V U C w U ℓ) (S : Int) : cOut { s with o := { s.o with sent := S } } = (cSettle { s with o := { s.o with sent := S } }, []) := by
 have h1 := h.una
 have h2 := h.cur
 have h3 := h.u1
 have h4 := h.wnd
 have h5 := h.ok.cs
 have hw := h.w1
 have hm := h.m
 obtain ⟨t, ht⟩ : ∃ z : KCn, z = { s with o := { s.o with sent := S } } := ⟨_, rfl⟩
 have hl : cLimit t = U := by
  rw [ht]
  unfold cLimit
  dsimp only
  rw [if_neg (by omega), h.wd, h1, h4, h.pr]
  simp
  omega
 have hi : cIsP t (cLimit t) = false := by
  rw [hl]
  unfold cIsP oIs
  have hle := oLim_le (q := t.o) U
  have hc : t.o.cur = s.o.cur := by rw [ht]
  rw [hc, decide_eq_false (by omega), Bool.false_and]
 have e := out_none (c := t) (by rw [ht]; exact h.st0.1) (by rw [ht]; exact h.rs) (by rw [ht]; exact h.ag) hi
 have ep : ({ t with owed := false, again := false, probe := false } : KCn) = t := by
  have k1 : t.owed = false := by rw [ht]; exact h.ow
  have k2 : t.again = false := by rw [ht]; exact h.ag
  have k3 : t.probe = false := by rw [ht]; exact h.pr
  obtain ⟨⟩ := t
  simp only at k1 k2 k3
  subst k1 k2 k3
  rfl
 have ko : t.owed = false := by rw [ht]; exact h.ow
 rw [← ht, e, ep, ko]
 rfl
theorem sent_id (s : KCn) : ({ s with o := { s.o with sent := s.o.sent } } : KCn) = s := rfl
theorem FSl.mute0 (h : FSl A B s q V U C w U ℓ) (hq : U < C ∨ C < qEnd s.o) (hc : 0 ≤ s.clock) : cOut s = (s, []) := by
 have e := h.mute s.o.sent
 rw [sent_id, settle_id h.st0.1 h.st9 (h.wt hq) hc] at e
 exact e
theorem FSl.more (h : FSl A B s q V U (U + 1) w U ℓ) (hp : AdTo A B) (hg : Ack A B V g U 0) (hs : s.shut = false) (hm : 0 ≤ s.same ∧ s.same ≤ 1) (hc : 0 ≤ s.clock) :
  ∃ x y, cIn s g = { s with same := s.same + 1, wat := x, wak := y } := by
 have hl : sgLen g = 0 := by unfold sgLen; rw [hg.syn, hg.fin, hg.b]; rfl
 have hu := h.u1
 have hv := h.v1
 have hq := h.qrd
 have hsent := h.sent
 have hcur := h.cur
 have huna := h.una
 have hwn := h.wnd
 have hbd := h.end_
 have hee := h.ok.ee
 have eq1 : cQ s = q := by unfold cQ; rw [h.wd]
 have e1 : (cQ s).nx = V := by rw [eq1]; exact h.qnx
 have e2 : cRoomI s = 2048 - (endZ q - q.rd) := by unfold cRoomI; rw [eq1]
 have hcs : g.seq = u32 (s.irs + V) := by rw [hg.seq, h.irs]
 have hck : g.ack = u32 (s.iss + U) := by rw [hg.ack, h.ad.iss]
 have hin : cInE s g = 0 := by
  unfold cInE
  obtain ⟨a1, a2, a3, a4⟩ := hg.ad
  rw [if_neg (fun e => e hg.chk), if_neg (fun e => e ⟨by rw [a1, h.ad.ra, hp.la], by rw [a2, h.ad.rp, hp.lp], by rw [a3, h.ad.la, hp.ra], by rw [a4, h.ad.lp, hp.rp]⟩), if_neg h.st0.1]
 have hat : cAt s g = V := at_is hcs (by rw [e1]; omega) (by rw [e1]; omega)
 have hak : cAckAt s g = U := ackAt_is hck (by rw [h.una]; omega) (by rw [h.una]; omega)
 have hacb : accB g.seq (sgLen g) (cWant s) (cRoomI s) = true := by
  rw [hcs, want_is, e1, e2, hl, acc_is (by omega) (by omega) (by omega) (by omega)]
  refine decide_eq_true ?_
  unfold accP
  rw [if_pos (by decide), if_neg (by omega)]
  exact ⟨by omega, by omega⟩
 have hx : cAcks s g V = cAcks2 s g V U := by unfold cAcks; rw [if_neg h.st0.2.2.1, hak]
 have hns : ¬ s.o.sent < U := by rw [hsent]; omega
 have k1 : ({ s with same := s.same + 1 } : KCn) = if s.o.una < U then cAckd s U else if U = s.o.una ∧ sgLen g = 0 ∧ s.o.una < s.o.cur ∧ g.win = s.wnd then cSame s g else s := by
  rw [if_neg (by omega), if_pos ⟨by omega, hl, by omega, by rw [hg.win]; omega⟩]
  unfold cSame
  rw [if_neg (by omega)]
 obtain ⟨x, y, hk2⟩ : ∃ x y, ({ s with same := s.same + 1, wat := x, wak := y } : KCn) = if s.o.una < U ∨ (U = s.o.una ∧ (s.wat < V ∨ (V = s.wat ∧ s.wak ≤ U))) then { ({ s with same := s.same + 1 } : KCn) with wnd := g.win, wat := V, wak := U } else ({ s with same := s.same + 1 } : KCn) := by
  split
  ·refine ⟨V, U, ?_⟩
   rw [hg.win, show (0 : Int) = s.wnd by omega]
  ·exact ⟨s.wat, s.wak, rfl⟩
 have hak2 := acks2_of hns k1 hk2
 rw [if_neg (fun e => by have := e.1; rw [show ({ s with same := s.same + 1, wat := x, wak := y } : KCn).shut = s.shut from rfl, hs] at this; cases this)] at hak2
 obtain ⟨c2, hc2⟩ : ∃ c2 : KCn, c2 = { s with same := s.same + 1, wat := x, wak := y } := ⟨_, rfl⟩
 rw [← hc2] at hak2
 have hch : c2.h = some (q, ⟨s.mss, w, ℓ⟩) := by rw [hc2]; exact h.wd
 have ho2 : c2.owed = false := by rw [hc2]; exact h.ow
 have h92 : c2.st ≠ 9 := by rw [hc2]; exact h.st9
 have hst2 : c2.st = s.st := by rw [hc2]
 have hput : putQ q V ⟨#[]⟩ false = q := put_empty h.qok h.qst V
 have t1 : cTakes1 c2 g V = c2 := by
  unfold cTakes1
  by_cases h345 : c2.st = 3 ∨ c2.st = 4 ∨ c2.st = 5
  ·rw [if_pos h345]
   have hm2 : ({ c2 with h := c2.h.map fun x => (putQ x.1 V g.b g.fin, x.2) } : KCn) = c2 := by
    have e : (c2.h.map fun x => (putQ x.1 V g.b g.fin, x.2)) = c2.h := by
     rw [hch, Option.map_some, hg.b, hg.fin, hput]
    rw [e]
   rw [hm2]
   dsimp only
   have hq2 : (cQ c2).over = false := by
    have e : cQ c2 = q := by unfold cQ; rw [hch]
    rw [e]
    refine h.qov ?_
    rcases h.st with ⟨_, e | e⟩ | ⟨e, _⟩
    ·exact .inl e
    ·omega
    ·rw [hs] at e; cases e
   rw [hq2, if_neg (by decide)]
  ·rw [if_neg h345, if_neg (fun e => h92 e.1)]
 have hxx : ∀ c : KCn, c.owed = false → ({ c with owed := false || decide ((0 : Int) < 0) } : KCn) = c := by
  intro c ho
  obtain ⟨⟩ := c
  simp only at ho
  subst ho
  rfl
 have tk : cTakes c2 g V = c2 := by
  unfold cTakes
  rw [t1, hl, ho2]
  exact hxx c2 ho2
 refine ⟨x, y, ?_⟩
 unfold cIn
 rw [if_neg (fun e => e hin), if_neg h.st0.2.1]
 unfold cNext
 rw [if_neg (by rw [hacb]; exact fun e => by cases e), if_neg (by rw [hg.rst]; exact fun e => by cases e.1), if_neg (by rw [hg.rst, hg.syn]; exact fun e => by rcases e with e | e <;> cases e), if_pos hg.has, hat, hx, hak2]
 dsimp only
 rw [if_pos rfl, tk, ← hc2]
 refine settle_id ?_ ?_ ?_ ?_
 ·rw [hst2]; exact h.st0.1
 ·exact h92
 ·rw [hc2]; exact h.wt (.inl (by omega))
 ·rw [hc2]; exact hc
theorem FSl.of2 (h : FSl A B s q V U C w E ℓ) (x1 x2 x3 : Int) (x4 : Int) (x5 : Int) (x6 : KTm) (x7 : Int) (x8 x9 : Int) : FSl A B { s with same := x1, wat := x2, wak := x3, now := x4, gone := x5, tm := x6, clock := x7, meas := x8, wh := x9 } q V U C w E ℓ :=
 ⟨⟨h.ad.la, h.ad.lp, h.ad.ra, h.ad.rp, h.ad.iss⟩, h.irs, h.st, h.cl, h.rs, h.ag, h.pr, h.ow, h.ok, h.una, h.cur, h.sent, h.u1, h.end_, h.m, h.wnd, h.wd, h.w1, h.qok, h.qst, h.qnx, h.qov, h.qrd, h.v1⟩
theorem FSl.back (h : FSl A B s q V U (U + 1) w U ℓ) (hq : U < qEnd s.o) (hc : 0 ≤ s.clock) (n : Int) (hv : valZ s.tm.k s.tm.m s.tm.s s.tm.d ≤ s.now + n - s.clock) (hg : s.gone ≠ 8) (hn : 0 ≤ s.now + n) :
  ∃ s1 : KCn, cTick s n = { s1 with o := { s1.o with sent := U + 1 } } ∧ FSl A B s1 q V U U s.mss U (2 * s.mss) ∧ s1.mss = s.mss ∧ qEnd s1.o = qEnd s.o ∧ s1.shut = s.shut ∧ s1.now = s.now + n ∧ s1.gone = s.gone + 1 ∧ s1.clock = s.now + n ∧ s1.same = s.same ∧ s1.st = s.st ∧
   s1.tm = { s.tm with d := if s.tm.d < 6 then s.tm.d + 1 else 6 } := by
 have h9 := h.st9
 have h0 := h.st0.1
 have h1 := h.una
 have h2 := h.cur
 have h3 := h.u1
 have h4 := h.wnd
 have hm := h.m
 have hsent := h.sent
 have hhz : halfZ s.mss (s.o.cur - s.o.una) = 2 * s.mss := by
  rw [h1, h2, show U + 1 - U = (1 : Int) by omega]
  unfold halfZ
  rw [if_pos (show (0 : Int) < 1 by decide), if_pos (show (1 : Int) / 2 < 2 * s.mss by omega), if_neg (show ¬ (65535 : Int) < 2 * s.mss by omega)]
 have e : cTick s n = cSettle { s with now := s.now + n, gone := s.gone + 1, tm := { s.tm with d := if s.tm.d < 6 then s.tm.d + 1 else 6 }, clock := s.now + n, o := { s.o with cur := s.o.una }, meas := 0, h := some (q, ⟨s.mss, s.mss, 2 * s.mss⟩) } := by
  unfold cTick
  dsimp only
  rw [if_neg (fun e => h9 e.1), if_pos ⟨hc, hv⟩]
  unfold cLate
  dsimp only
  rw [if_neg hg, if_neg (by omega), h.wd, Option.map_some, hhz]
 have e2 : cTick s n = { s with now := s.now + n, gone := s.gone + 1, tm := { s.tm with d := if s.tm.d < 6 then s.tm.d + 1 else 6 }, clock := s.now + n, o := { s.o with cur := s.o.una }, meas := 0, h := some (q, ⟨s.mss, s.mss, 2 * s.mss⟩) } := by
  rw [e]
  refine settle_id h0 h9 ?_ hn
  right
  refine ⟨?_, ?_, ?_⟩
  ·show s.wnd = 0; omega
  ·show 0 < s.o.una; omega
  ·show s.o.una < qEnd s.o; omega
 refine ⟨{ s with now := s.now + n, gone := s.gone + 1, tm := { s.tm with d := if s.tm.d < 6 then s.tm.d + 1 else 6 }, clock := s.now + n, o := { s.o with cur := s.o.una, sent := U }, meas := 0, h := some (q, ⟨s.mss, s.mss, 2 * s.mss⟩) }, ?_, ?_, rfl, rfl, rfl, rfl, rfl, rfl, rfl, rfl, rfl⟩
 ·rw [e2, ← hsent]
 ·obtain ⟨g1, g2, g3, g4, g5, g6, g7⟩ := h.ok
  exact ⟨⟨h.ad.la, h.ad.lp, h.ad.ra, h.ad.rp, h.ad.iss⟩, h.irs, h.st, h.cl, h.rs, h.ag, h.pr, h.ow, ⟨g1, g2, g3, Int.le_refl _, (by show s.o.una ≤ U; omega), (by show U ≤ qEnd s.o; omega), g7⟩, h1, h1, rfl, h3, h.end_, hm, h4, rfl, ⟨Int.le_refl _, (by show s.mss ≤ 65535; omega)⟩, h.qok, h.qst, h.qnx, h.qov, h.qrd, h.v1⟩
theorem FSl.probeS (h : FSl A B s q V U U w U ℓ) (hq : U < qEnd s.o) (hs : s.shut = false) (hR : ∀ x, R = some x → 2048 - (endZ q - q.rd) = x) (hp : AdTo A B) (S : Int) (hS : S = U ∨ S = U + 1) (hck : 0 ≤ s.clock) :
  ∃ s1 g, cOut { s with o := { s.o with sent := S }, probe := true } = (s1, [g]) ∧ FSl A B s1 q V U (U + 1) w U ℓ ∧ Dat A B V R g U ∧ g.fin = false ∧ sgLen g = 1 ∧ s1 = { s with o := s1.o, meas := s1.meas, wh := s1.wh } ∧ qEnd s1.o = qEnd s.o := by
 have h1 := h.una
 have h2 := h.cur
 have h3 := h.u1
 have h4 := h.wnd
 have hm := h.m
 have hw := h.w1
 have hsent := h.sent
 obtain ⟨t, ht⟩ : ∃ z : KCn, z = { s with o := { s.o with sent := S }, probe := true } := ⟨_, rfl⟩
 have hl : cLimit t = U + 1 := by
  rw [ht]
  unfold cLimit
  dsimp only
  rw [if_neg (by omega), h.wd, h1, h4]
  simp
  omega
 have hi : cIsP s (U + 1) = true := by
  show oIs s.o s.o.cur (U + 1) s.mss = true
  unfold oIs oLim
  rw [h2, decide_eq_true (show U < (if U + 1 < qEnd s.o then U + 1 else qEnd s.o) by split <;> omega), decide_eq_true (show (1 : Int) ≤ s.mss by omega)]
  rfl
 obtain ⟨k1, k2, k3, k4⟩ := h.piece hR hp hi
 have hF : oFin s.o = qEnd s.o := by
  have := h.cl
  rw [hs] at this
  unfold qEnd; rw [this]; rfl
 have hlim : oLim s.o (U + 1) = U + 1 := by unfold oLim; split <;> omega
 have hsz : sgLen (cSegm s (cPc s (U + 1))) = 1 := by
  rw [k4, hlim, hF]
  split <;> split <;> omega
 rw [hsz] at k1
 rw [hs, Bool.false_and] at k3
 obtain ⟨u, hu⟩ : ∃ z : KCn, z = cStep s (U + 1) := ⟨_, rfl⟩
 have huo : u.o = oNext s.o (U + 1) s.mss := by rw [hu]; unfold cStep; split <;> rfl
 have hst : u = { s with o := u.o, meas := u.meas, wh := u.wh } := by
  rw [hu]; unfold cStep; split <;> rfl
 have huq : qEnd u.o = qEnd s.o := by rw [huo]; rfl
 rw [← hu] at k1
 have hon : oNext { s.o with sent := S } (U + 1) s.mss = u.o := by
  rw [huo]
  have hcur : (oNext s.o (U + 1) s.mss).cur = U + 1 := by rw [← huo]; exact k1.cur
  have hc2 : s.o.cur + oLen (qPiece s.o s.o.cur (U + 1) s.mss) = U + 1 := hcur
  show ({ s.o with cur := s.o.cur + oLen (qPiece s.o s.o.cur (U + 1) s.mss), sent := if S < s.o.cur + oLen (qPiece s.o s.o.cur (U + 1) s.mss) then s.o.cur + oLen (qPiece s.o s.o.cur (U + 1) s.mss) else S } : OQ) = { s.o with cur := s.o.cur + oLen (qPiece s.o s.o.cur (U + 1) s.mss), sent := if s.o.sent < s.o.cur + oLen (qPiece s.o s.o.cur (U + 1) s.mss) then s.o.cur + oLen (qPiece s.o s.o.cur (U + 1) s.mss) else s.o.sent }
  rw [hc2, hsent]
  have e1 : (if S < U + 1 then U + 1 else S) = U + 1 := by split <;> omega
  have e2 : (if U < U + 1 then U + 1 else U) = U + 1 := by split <;> omega
  rw [e1, e2]
 obtain ⟨x, hx⟩ : ∃ x, x = (cStep t (U + 1)).meas := ⟨_, rfl⟩
 obtain ⟨y, hy⟩ : ∃ y, y = (cStep t (U + 1)).wh := ⟨_, rfl⟩
 have htu : cStep t (U + 1) = { u with probe := true, meas := x, wh := y } := by
  have e : cStep t (U + 1) = { t with o := oNext t.o (U + 1) t.mss, meas := x, wh := y } := by
   rw [hx, hy]; unfold cStep; split <;> rfl
  rw [e, ht]
  show ({ s with o := oNext { s.o with sent := S } (U + 1) s.mss, probe := true, meas := x, wh := y } : KCn) = _
  rw [hon, hst]
 have hi2 : cIsP { u with probe := true, meas := x, wh := y } (U + 1) = false := by
  show oIs u.o u.o.cur (U + 1) u.mss = false
  unfold oIs oLim
  rw [k1.cur, huq, decide_eq_false (show ¬ U + 1 < (if U + 1 < qEnd s.o then U + 1 else qEnd s.o) by split <;> omega), Bool.false_and]
 have hloop : cLoop 2100 t (U + 1) [] = ({ u with probe := true, meas := x, wh := y }, [cSegm s (cPc s (U + 1))]) := by
  have e1 : cLoop 2100 t (U + 1) [] = if cIsP t (U + 1) = true then cLoop 2099 (cStep t (U + 1)) (U + 1) ([] ++ [cSegm t (cPc t (U + 1))]) else (t, []) := rfl
  have e2 : cIsP t (U + 1) = true := by rw [ht]; exact hi
  have e3 : cSegm t (cPc t (U + 1)) = cSegm s (cPc s (U + 1)) := by rw [ht]; rfl
  rw [e1, if_pos e2, e3, htu, List.nil_append]
  have e4 : ∀ (c : KCn) (l : List KSeg), cIsP c (U + 1) = false → cLoop 2099 c (U + 1) l = (c, l) := by
   intro c l hc
   show (if cIsP c (U + 1) = true then _ else _) = _
   rw [if_neg (by rw [hc]; decide)]
  exact e4 _ _ hi2
 have hus : u.clock = s.clock ∧ u.st = s.st := by rw [hst]; exact ⟨rfl, rfl⟩
 have hset : cSettle { u with owed := false, again := false, probe := false, meas := x, wh := y } = { u with owed := false, again := false, probe := false, meas := x, wh := y } := by
  refine settle_id ?_ ?_ ?_ ?_
  ·show u.st ≠ 0; rw [hus.2]; exact h.st0.1
  ·show u.st ≠ 9; rw [hus.2]; exact h.st9
  ·left
   show u.o.una < u.o.cur
   rw [k1.una, k1.cur]; omega
  ·show 0 ≤ u.clock; rw [hus.1]; exact hck
 have e : cOut t = ({ u with owed := false, again := false, probe := false, meas := x, wh := y }, [cSegm s (cPc s (U + 1))]) := by
  have hr : t.rs = [] := by rw [ht]; exact h.rs
  have e0 : ({ t with rs := [] } : KCn) = t := by
   obtain ⟨⟩ := t
   simp only at hr
   subst hr
   rfl
  have hst0 : t.st ≠ 0 := by rw [ht]; exact h.st0.1
  have e1 : cFirstL t ([].map (cRst t)) = [] := by
   unfold cFirstL
   rw [if_neg (by rw [ht]; show ¬ (s.again = true ∧ _); rw [h.ag]; exact fun h => by cases h.1)]
   rfl
  have e2 : cOut t = cTail ({ u with probe := true, meas := x, wh := y }, [cSegm s (cPc s (U + 1))]) 0 := by
   unfold cOut
   conv => lhs; dsimp only
   rw [if_neg hst0, e0, hr, e1, hl, hloop]
   rfl
  rw [e2]
  unfold cTail
  dsimp only
  rw [k1.ow]
  exact Prod.ext hset rfl
 rw [ht] at e
 refine ⟨_, _, e, k1.of u.clock x y rfl, k2, k3, hsz, ?_, huq⟩
 have ho : u.owed = s.owed ∧ u.again = s.again ∧ u.probe = s.probe := by rw [hst]; exact ⟨rfl, rfl, rfl⟩
 have h5 := h.ow
 have h6 := h.ag
 have h7 := h.pr
 rw [hst]
 obtain ⟨⟩ := s
 simp only at h5 h6 h7
 subst h5 h6 h7
 rfl
end
def oq0 : OQ := ⟨[], 1, 1, 1, 1, false⟩
theorem rd_same {c : KCn} {q : IQ} {W : KWd} (hh : c.h = some (q, W)) {n : Int} (h0 : n = 0) : c = { c with h := some ({ q with rd := q.rd + n }, W) } := by
 subst h0
 have : ({ q with rd := q.rd + 0 } : IQ) = q := by rw [Int.add_zero]
 rw [this, ← hh]
theorem rsz (q : IQ) (n : Nat) : (byteS (readL q n)).size = n := by rw [byteS_sz]; exact fnL_len _ _
section
variable {iss irs : Int} {N : Nat} {t : Int} {h : KGh} {x : KPr} {q : IQ} {W : KWd}
end
theorem fin_c {q : OQ} (h : q.cl = false) : qEnd { q with cl := true } = qEnd q + 1 := by
 unfold qEnd oFin
 rw [h]
 simp
section
variable {A B : KAd} {s r : KCn} {q : IQ} {N V D U w E Z mr : Int} {R : Option Int} {W : KWd} {sr : Bool} {O : OQ}
theorem FR.says (h : FR A B r N V D (some 2048) ⟨mr, 2 * mr + 1, 65535⟩ mr false oq0 true false) (hm : 8 ≤ mr ∧ mr ≤ 1000) (T : ByteArray) (hT : T.size ≤ 1000) (x : Int) (hN : N - 1 - D ≤ 2047) (hD : D ≤ N - 1) :
  ∃ q, r.h = some (q, ⟨mr, 2 * mr + 1, 65535⟩) ∧ q.over = true ∧ q.rd = D ∧ q.nx = N ∧ FS B A { r with o := oWrite oq0 T, clock := x } q N 1 1 (2 * mr + 1) 2049 := by
 obtain ⟨q, hh, ok, hn, hc, ho, hr⟩ := h.h
 have hst := h.st
 simp only [Bool.false_eq_true, if_true, if_false] at hst
 have hqe : qEnd (oWrite oq0 T) = 1 + T.size := by
  have := fin_w (T := T) hT
  unfold qEnd
  rw [show (oWrite oq0 T).cl = false from rfl, show oFin (oWrite oq0 T) = 1 + T.size from this]
  rfl
 refine ⟨q, hh, ho, hr, hn, ⟨⟨h.ad.la, h.ad.lp, h.ad.ra, h.ad.rp, h.ad.iss⟩, h.irs, .inl ⟨h.sh, .inr hst⟩, ?_, h.rs, h.ag, h.pr, h.ow, write_ok ok_e T, rfl, rfl, rfl, Int.le_refl 1, ?_, ?_, ?_, ?_, ?_, ok, .inl ho, hn, ?_, ?_, h.n1⟩⟩
 ·show false = r.shut; rw [h.sh]
 ·show qEnd (oWrite oq0 T) ≤ _; rw [hqe]; omega
 ·show 8 ≤ r.mss ∧ r.mss ≤ 1000; rw [h.ms]; exact hm
 ·show r.wnd = 2049 - 1; rw [h.wn 2048 rfl]; rfl
 ·show r.h = some (q, ⟨r.mss, 2 * mr + 1, 65535⟩); rw [h.ms]; exact hh
 ·show r.mss ≤ _ ∧ _; rw [h.ms]; omega
 ·intro h34
  have : r.st = 3 ∨ r.st = 4 := h34
  omega
 ·rw [end_over ho, hn, hr]; omega
theorem FR.reads (h : FR A B r N V D R W mr sr O false false) {q : IQ} (hh : r.h = some (q, W)) {n : Int} (hok : IqOk { q with rd := q.rd + n }) : FR A B { r with h := some ({ q with rd := q.rd + n }, W) } N V (D + n) R W mr sr O false false := by
 obtain ⟨q', hh', ok, hn, hc, ho, hr⟩ := h.h
 have e : q' = q := by rw [hh'] at hh; exact (Prod.mk.inj (Option.some.inj hh)).1
 subst e
 refine ⟨⟨h.ad.la, h.ad.lp, h.ad.ra, h.ad.rp, h.ad.iss⟩, h.irs, h.st, h.sh, h.en, h.pr, h.oc, h.rs, h.ag, h.ow, h.una, h.cur, h.sent, h.end_, h.v1, h.n1, h.wn, h.ms, _, rfl, hok, hn, fun e => ⟨(hc e).h, (hc e).ov, (hc e).fin⟩, ho, ?_⟩
 show q'.rd + n = D + n
 rw [hr]
theorem FS.ends (h : FS A B s q V U U w E) (h6 : s.st = 6) (hsh : s.shut = false) (x : Int) {n : Int} (hov : q.over = true) (hok : IqOk { q with rd := q.rd + n }) (hn : 0 ≤ endZ q - (q.rd + n) ∧ endZ q - (q.rd + n) ≤ 2047) {d : KWd} (hd : s.h = some (q, d)) (he : qEnd s.o + 1 ≤ 2097152) :
  FS A B { s with h := some ({ q with rd := q.rd + n }, d), shut := true, o := { s.o with cl := true }, st := 8, clock := x } { q with rd := q.rd + n } V U U w E := by
 have e : d = ⟨s.mss, w, 65535⟩ := by have := h.wd; rw [hd] at this; exact (Prod.mk.inj (Option.some.inj this)).2
 have hcl := h.cl
 rw [hsh] at hcl
 refine ⟨⟨h.ad.la, h.ad.lp, h.ad.ra, h.ad.rp, h.ad.iss⟩, h.irs, .inr ⟨rfl, .inr rfl⟩, rfl, h.rs, h.ag, h.pr, h.ow, close_ok h.ok, h.una, h.cur, h.sent, h.u1, ?_, h.m, h.wnd, ?_, h.w1, hok, .inl hov, h.qnx, ?_, hn, h.v1⟩
 ·show qEnd { s.o with cl := true } ≤ _
  rw [fin_c hcl]; omega
 ·show some _ = some _
  rw [e]
 ·intro h34
  exact absurd (show (8 : Int) = 3 ∨ (8 : Int) = 4 from h34) (by decide)
end
def Rnd : Nat → KPr → Prop
  | 0, _ => False
  | n + 1, x => ∃ (x1 x2 : KPr) (t : Int) (k : Nat), t ≤ 1000000000 ∧ CI x.a t ∧ CI x.b t ∧ x.a.now ≤ 1000000 ∧ x.b.now ≤ 1000000 ∧ SOk ⟨cTick x.a 3, cTick x.b 3, x.p⟩ x1 ∧ k ≤ 9001 ∧ Qx k x1 x2 ∧ CI x2.b t ∧
    (cRead x2.b 0).1 = x2.b ∧ (cRead x2.b 0).2.1 = ⟨#[]⟩ ∧ (∃ iss irs N, PI iss irs N t x2) ∧
    ∀ o, ∃ z, SOk (rd1 x2 700 o) z ∧ z.p.air = [] ∧ (z.p.g1 = z.p.w0 ∨ (z.p.g1 ≠ z.p.w0 ∧ Rnd n z)) ∧ z.p.g1.size ≤ 1048576 ∧ z.p.w0.size ≤ 1048576
section
variable {iss irs : Int} {N : Nat} {t : Int} {x : KPr}
theorem pi_gh (hP : PI iss irs N t x) : PI iss irs N t (gh (ghOf x.p) x) := by rw [gh_self hP.br]; exact hP
theorem pi_un {h : KGh} {y : KPr} (hP : PI iss irs N t (gh h y)) (h1 : ghOf y.p = h) (h2 : y.p.br = false) : PI iss irs N t y := by
 subst h1
 rw [gh_self h2] at hP
 exact hP
theorem sok_same (hP : PI iss irs N t x) (ht : t ≤ 100000000) : ∃ z, SOk x z ∧ PI iss irs N t z ∧ sends x = some z ∧ ghOf z.p = ghOf x.p := by
 obtain ⟨z, hz, hPz⟩ := sok_pi (pi_gh hP) ht
 have hs : sends x = some z := by obtain ⟨_, _, _, _, _, _, h, _⟩ := hz; exact h
 obtain ⟨k1, k2⟩ := sends_keep hs
 exact ⟨z, hz, pi_un hPz k1 (k2.trans hP.br), hs, k1⟩
theorem sends_none (ha : (cOut x.a).2 = []) (hb : (cOut x.b).2 = []) : sends x = some ⟨(cOut x.a).1, (cOut x.b).1, x.p⟩ := by
 unfold sends
 rw [ha, hb]
 rfl
theorem hush (hP : PI iss irs N t x) (ht : t ≤ 100000000) (ha : (cOut x.a).2 = []) (hb : (cOut x.b).2 = []) : SOk x ⟨(cOut x.a).1, (cOut x.b).1, x.p⟩ ∧ PI iss irs N t ⟨(cOut x.a).1, (cOut x.b).1, x.p⟩ := by
 obtain ⟨z, h1, h2, h3, _⟩ := sok_same hP ht
 rw [sends_none ha hb] at h3
 have e := Option.some.inj h3
 rw [e]
 exact ⟨h1, h2⟩
theorem step_pi {g : KSeg} {l : List KSeg} (hP : PI iss irs N t x) (hair : x.p.air = g :: l) (ht : t ≤ 1000000) :
  ∃ z, QOk x g l z ∧ PI iss irs N (t + 1) z ∧ sends (come ⟨x.a, x.b, { x.p with air := l }⟩ g) = some z ∧ ghOf z.p = ghOf x.p ∧ PI iss irs N (t + 1) (come ⟨x.a, x.b, { x.p with air := l }⟩ g) := by
 obtain ⟨z, h1, h2, h3⟩ := qok_pi (pi_gh hP) hair (by omega)
 obtain ⟨k1, k2⟩ := sends_keep h3
 obtain ⟨c1, c2⟩ := come_keep x g l
 have hg : g ∈ x.p.air := by rw [hair]; exact List.mem_cons_self ..
 have p1 := hP.come hg (by omega)
 have hlen := hP.len
 have hcp : (come x g).p = x.p := by unfold come; split <;> rfl
 have p2 := p1.few (l := l) (fun y hy => by rw [hcp, hair]; exact List.mem_cons_of_mem _ hy) (by rw [hair] at hlen; simp only [List.length_cons] at hlen; omega)
 rw [← come_l x g l] at p2
 exact ⟨z, h1, pi_un h2 (k1.trans c1) ((k2.trans c2).trans hP.br), h3, k1.trans c1, p2⟩
theorem read_nw {c : KCn} {q : IQ} {W : KWd} (hh : c.h = some (q, W)) (h0 : c.st ≠ 0) (ho : q.over = false) (hz : 0 ≤ endZ q - q.rd) (most : Int) (hm : 0 ≤ most) :
  ∃ n : Nat, (n : Int) = (if most < endZ q - q.rd then most else endZ q - q.rd) ∧ (cRead c most).1 = { c with h := some ({ q with rd := q.rd + n }, W) } ∧ (cRead c most).2.1.size = n := by
 have hcq : cQ c = q := by unfold cQ; rw [hh]
 have hne : c.h ≠ none := by rw [hh]; exact fun e => by cases e
 by_cases hp : 0 < endZ q - q.rd
 ·have hrn : (readN q most : Int) = (if most < endZ q - q.rd then most else endZ q - q.rd) := by
   unfold readN
   rw [if_neg (show ¬ most < 0 by omega)]
   split <;> omega
  have hmp : (c.h.map fun x => (({ x.1 with rd := x.1.rd + readN x.1 most } : IQ), x.2)) = some ({ q with rd := q.rd + readN q most }, W) := by
   rw [hh]; rfl
  refine ⟨readN q most, hrn, ?_, ?_⟩
  ·unfold cRead
   rw [if_pos ⟨hne, by rw [hcq]; exact hp⟩, hmp]
  ·unfold cRead
   rw [if_pos ⟨hne, by rw [hcq]; exact hp⟩, hcq]
   exact rsz q _
 ·have e : cRead c most = (c, ⟨#[]⟩, false, 14) := by
   unfold cRead
   rw [if_neg (fun e => hp (by rw [hcq] at e; exact e.2)), if_neg (fun e => by rw [hcq, ho] at e; cases e.2)]
   unfold cReadT
   rw [if_pos h0]
  refine ⟨0, ?_, ?_, ?_⟩
  ·split <;> omega
  ·rw [e]; exact rd_same hh rfl
  ·rw [e]; rfl
section
variable {M V D : Int} {R : Option Int} {W : KWd} {mr : Int} {O : OQ}
def min7 (z : Int) : Int := if 700 < z then 700 else z
theorem FR.hq {A B : KAd} {r : KCn} (h : FR A B r M V D R W mr false O false false) : ∃ q, r.h = some (q, W) ∧ IqOk q ∧ q.over = false ∧ q.rd = D ∧ endZ q = M ∧ D ≤ M ∧ 1 ≤ D := by
 obtain ⟨q, hh, ok, hn, hc, ho, hr⟩ := h.h
 have h1 := (ok_open ok ho).1
 have h2 := ok.rd1
 exact ⟨q, hh, ok, ho, hr, by rw [end_open ho, hn], by omega, by omega⟩
theorem half2 (hP : PI iss irs N t x) (ht : t ≤ 90000000) (hair : x.p.air = []) (hr : FR (adA iss) (adB irs) x.b M V D R W mr false O false false) (hM : M ≤ D + 2048) (ha : (cOut x.a).2 = []) :
  (cRead x.b 0).1 = x.b ∧ (cRead x.b 0).2.1 = ⟨#[]⟩ ∧ ∀ o, ∃ z, SOk (rd1 x 700 o) z ∧ PI iss irs N (t + 1) z ∧ z.a = (cOut x.a).1 ∧ z.p.air = [] ∧ FR (adA iss) (adB irs) z.b M V (D + min7 (M - D)) R W mr false O false false ∧ z.b.clock = -1 ∧ z.b.now = x.b.now ∧ z.p.w0 = x.p.w0 := by
 obtain ⟨q, hh, ok, ho, hrd, hz, hD, hD1⟩ := hr.hq
 have h0 := hr.st0.1
 have hpb : okP (adB irs).lp ∧ okP (adB irs).rp := ⟨(by decide : (0 : Int) < 80 ∧ (80 : Int) ≤ 65535), (by decide : (0 : Int) < 40000 ∧ (40000 : Int) ≤ 65535)⟩
 obtain ⟨n0, z1, z2, z3⟩ := read_nw hh h0 ho (by omega) 0 (by decide)
 have hn0 : n0 = 0 := by
  have : (n0 : Int) = 0 := by rw [z1]; split <;> omega
  omega
 subst hn0
 refine ⟨?_, ?_, ?_⟩
 ·rw [z2]; exact (rd_same hh rfl).symm
 ·exact size_data z3
 ·intro o
  obtain ⟨n, y1, y2, y3⟩ := read_nw hh h0 ho (by omega) 700 (by decide)
  have hn : (n : Int) = min7 (M - D) := by rw [y1, hz, hrd]; rfl
  obtain ⟨p1, _⟩ := hP.read1 700 o
  have hb : (rd1 x 700 o).b = { x.b with h := some ({ q with rd := q.rd + n }, W) } := y2
  have hok : IqOk { q with rd := q.rd + n } := ((p1.ciB).hs _ _ (show (cRead x.b 700).1.h = some _ by rw [y2])).1
  have hf := hr.reads hh hok
  rw [← hb, hn] at hf
  have hnm : 0 ≤ min7 (M - D) ∧ min7 (M - D) ≤ M - D := by unfold min7; split <;> omega
  have hw : 0 ≤ 2048 - (M - (if false = true then (1 : Int) else 0) - (D + min7 (M - D))) ∧ 2048 - (M - (if false = true then (1 : Int) else 0) - (D + min7 (M - D))) ≤ 65535 := by
   simp; omega
  obtain ⟨f1, f2⟩ := hf.none hw hpb
  have f3 := hf.clk
  obtain ⟨s1, s2⟩ := hush (x := rd1 x 700 o) p1 (by omega) ha f2
  refine ⟨_, s1, s2, rfl, hair, f1, f3, ?_, rfl⟩
  show (cOut (rd1 x 700 o).b).1.now = _
  rw [now_out, hb]
theorem got_is (hP : PI iss irs N t x) (h0 : x.a.st ≠ 0) (hcl : x.a.o.cl = false) {q : IQ} {d : KWd} (hh : x.b.h = some (q, d)) : (x.p.g1 = x.p.w0 ↔ q.rd = qEnd x.a.o) ∧ (x.p.g1.size : Int) + 1 = q.rd ∧ (x.p.w0.size : Int) + 1 = qEnd x.a.o ∧ x.p.g1.size ≤ 1048576 ∧ x.p.w0.size ≤ 1048576 := by
 obtain ⟨E0, E1, hx⟩ := hP.h
 have hg := (PH.xb hx).good q d hh
 have hs := (PH.xa hx).hd.size
 have e1 := hg.1.rd
 have e2 : qEnd x.a.o = oFin x.a.o := by unfold qEnd; rw [hcl]; rfl
 have e3 := PH.g1 hx
 have e4 := PH.sz hx
 have e5 := PH.big hx
 have e6 := PH.n1 hx
 refine ⟨⟨fun e => ?_, fun e => ?_⟩, by omega, by omega, by omega, by omega⟩
 ·rw [e] at e1; omega
 ·have : x.p.g1.size = x.p.w0.size := by omega
  rw [e3, this]
  exact ByteArray.extract_zero_size
end
end
section
variable {A B : KAd} {s : KCn} {q : IQ} {V U C w E ℓ : Int} {R : Option Int}
theorem FSl.off (h : FSl A B s q V U U w E ℓ) (hq : qEnd s.o = U) : ¬ cWaits s := by
 have h1 := h.una
 have h2 := h.cur
 intro hw
 rcases hw with hw | ⟨_, _, hw⟩ <;> omega
theorem FSl.idle (h : FSl A B s q V U U w E ℓ) (hq : qEnd s.o = U) : cOut s = ({ s with clock := -1 }, []) := by
 have hi : cIsP s (cLimit s) = false := by
  unfold cIsP oIs
  have hle := oLim_le (q := s.o) (cLimit s)
  rw [h.cur, decide_eq_false (by omega), Bool.false_and]
 have e := out_none h.st0.1 h.rs h.ag hi
 rw [h.plain, h.ow] at e
 rw [e, settle_off (.inr (.inr (h.off hq)))]
 rfl
theorem FSl.cl0 (h : FSl A B s q V U C w E ℓ) (hs : s.shut = false) : s.o.cl = false := h.cl.trans hs
end
section
variable {A B : KAd} {c : KCn} {q : IQ} {V U w E ℓ : Int}
theorem write_all (h : FSl A B c q V U U w E ℓ) (hq : qEnd c.o = U) (hs : c.shut = false) (T : ByteArray) (hT : T.size ≤ 2048) (hU : U ≤ 100000) :
  ∃ x, (cWrite c T).1 = { c with o := oWrite c.o T, clock := x } ∧ (cWrite c T).2.1 = T.size ∧ (cWrite c T).2.2 = 0 ∧ qEnd (cWrite c T).1.o = U + T.size ∧ FSl A B (cWrite c T).1 q V U U w E ℓ := by
 have hcl : c.o.cl = false := h.cl.trans hs
 have hF : oFin c.o = U := by
  have : qEnd c.o = oFin c.o := by unfold qEnd; rw [hcl]; rfl
  omega
 have hu := h.u1
 have hun := h.una
 have hb : c.o.base = U := by
  rcases h.ok.rel with ⟨h1, h2⟩ | ⟨h1, h2⟩
  ·omega
  ·rw [h2]; split <;> omega
 have hl : c.o.l.length = 0 := by
  have : oFin c.o = c.o.base + c.o.l.length := rfl
  omega
 have hn : oN c.o T.size = T.size := by
  unfold oN oRoom
  rw [hcl, hl]
  simp
  omega
 have hst : c.st = 3 ∨ c.st = 6 := by
  rcases h.st with ⟨_, h⟩ | ⟨h, _⟩
  ·exact h
  ·rw [hs] at h; cases h
 obtain ⟨x, hx, -⟩ := cSettle_is { c with o := oWrite c.o T }
 have e : cWrite c T = (cSettle { c with o := oWrite c.o T }, ((T.size : Int), 0)) := by
  unfold cWrite
  rw [if_neg (fun e => by have := e.1; omega), if_neg (fun e => by rcases e with e | e; (omega); rw [hs] at e; cases e), hn, if_neg (fun e => e.2 e.1)]
 have hqe : qEnd (oWrite c.o T) = U + T.size := by
  have h1 : (oWrite c.o T).cl = false := hcl
  unfold qEnd
  rw [h1]
  show oFin (oWrite c.o T) = _
  unfold oFin oWrite
  rw [hn]
  show c.o.base + ((c.o.l ++ sI (T.extract 0 T.size) : List Int).length : Int) = _
  rw [List.length_append, sI_len, ByteArray.size_extract, hl, hb]
  omega
 rw [e, hx]
 refine ⟨x, rfl, rfl, rfl, hqe, ⟨⟨h.ad.la, h.ad.lp, h.ad.ra, h.ad.rp, h.ad.iss⟩, h.irs, h.st, h.cl, h.rs, h.ag, h.pr, h.ow, write_ok h.ok T, h.una, h.cur, h.sent, h.u1, ?_, h.m, h.wnd, h.wd, h.w1, h.qok, h.qst, h.qnx, h.qov, h.qrd, h.v1⟩⟩
 show qEnd (oWrite c.o T) ≤ 2097152
 rw [hqe]; omega
end
end Go.Proofs.Ytfpifahkpkjfgaa
