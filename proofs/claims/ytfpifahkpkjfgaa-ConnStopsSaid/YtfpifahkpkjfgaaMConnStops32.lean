/- What ConnStops needs, a part: CnG, CnH, CnHa, Dat, StepM, Str, Step, Sub, CnHb. -/
import Derived.Deep.CutBlock
import Derived.Deep.Slices
import Derived.Deep.MidRow
import Derived.SizedLaws
import Derived.Orders
import Derived.Test.YtfpifahkpkjfgaaMConnStops31
namespace Go.Proofs.Ytfpifahkpkjfgaa
open Go.RowKit Go.Lib
set_option linter.unusedVariables false
set_option linter.unusedSimpArgs false
structure CI (c : KCn) (t : Int) : Prop where
 o : OqOk c.o
 fin : oFin c.o ≤ 1 + 2048 * t
 ht : TimerOk c.tm.m c.tm.s c.tm.d
 g : 0 ≤ c.gone ∧ c.gone ≤ 8
 n : 0 ≤ c.now ∧ c.now ≤ 1099511627776
 k : -1 ≤ c.clock ∧ c.clock ≤ c.now
 w : 0 ≤ c.wnd ∧ c.wnd ≤ 65535
 m : 8 ≤ c.mss ∧ c.mss ≤ 1000
 own : 8 ≤ c.own ∧ c.own ≤ 1000
 iss : 0 ≤ c.iss ∧ c.iss ≤ 4294967295
 irs : 0 ≤ c.irs ∧ c.irs ≤ 4294967295
 same : 0 ≤ c.same ∧ c.same ≤ t
 wh : 0 ≤ c.wh ∧ c.wh ≤ c.now
 me : 0 ≤ c.meas ∧ c.meas ≤ 2 + 2048 * t
 rsl : (c.rs.length : Int) ≤ t
 rsu : ∀ n ∈ c.rs, 0 ≤ n ∧ n ≤ 4294967295
 s1 : c.st = 1 → c.h = none
 s2 : c.st ≠ 0 → c.st ≠ 1 → c.h ≠ none
 hn : c.h = none → c.o.una = 0
 hs : ∀ q d, c.h = some (q, d) → IqOk q ∧ WindowOk d.m d.s d.l ∧ q.rd ≤ 1 + 2048 * t
 wy : c.st ≠ 0 → c.why = 0
 ck : c.st = 0 → c.clock = -1
theorem CI.bd {c : KCn} {t : Int} (h : CI c t) (ht : t ≤ 140737488355328) : c.o.base ≤ 1 + 2048 * t ∧ c.o.una ≤ 2 + 2048 * t ∧ 0 ≤ t := by
 have h1 := h.fin
 have h2 := h.o
 have h3 := qEnd_bd (q := c.o)
 have h4 : oFin c.o = c.o.base + c.o.l.length := rfl
 have h5 := h2.uc
 have h6 := h2.cs
 have h7 := h2.se
 have h8 := h2.ee
 have h9 := h2.ba
 refine ⟨by omega, by omega, by omega⟩
theorem CI.cok {c : KCn} {t : Int} (h : CI c t) (ht : t ≤ 140737488355328) : COk c := by
 have hb := h.bd ht
 exact ⟨h.o, by omega, h.ht, h.g.1, h.g.2, h.n.1, h.n.2, h.k.1, h.k.2, h.w.1, h.w.2, h.m.1, h.m.2, h.hn, fun q d e => ⟨(h.hs q d e).1, (h.hs q d e).2.1⟩⟩
theorem CI.cin {c : KCn} {t : Int} (h : CI c t) (ht : t ≤ 1000000000000) : CIn c := by
 have hb := h.bd (by omega)
 have h1 := h.n
 have h2 := h.wh
 have h3 := h.me
 have h4 := h.same
 have h5 := h.rsl
 exact ⟨h.cok (by omega), h.own, h.iss, h.irs, ⟨h4.1, by omega⟩, ⟨h2.1, by omega⟩, ⟨by omega, by omega⟩, by omega, by omega, h.s1, h.s2⟩
theorem CI.mono {c : KCn} {t t' : Int} (h : CI c t) (ht : t ≤ t') : CI c t' :=
 { h with
  fin := by have := h.fin; omega
  same := ⟨h.same.1, by have := h.same.2; omega⟩
  me := ⟨h.me.1, by have := h.me.2; omega⟩
  rsl := by have := h.rsl; omega
  hs := fun q d e => ⟨(h.hs q d e).1, (h.hs q d e).2.1, by have := (h.hs q d e).2.2; omega⟩ }
theorem cSettle_is (c : KCn) : ∃ x, cSettle c = { c with clock := x } ∧ (x = -1 ∨ x = c.now ∧ c.st ≠ 0 ∨ x = c.clock ∧ c.st ≠ 0) ∧ (c.st = 0 → x = -1) := by
 unfold cSettle
 by_cases h : c.st = 0 ∨ c.st = 9 ∨ ¬ cWaits c
 ·rw [if_pos h]; exact ⟨-1, rfl, .inl rfl, fun _ => rfl⟩
 ·have h0 : c.st ≠ 0 := fun e => h (.inl e)
  rw [if_neg h]
  split
  ·exact ⟨c.now, rfl, .inr (.inl ⟨rfl, h0⟩), fun e => absurd e h0⟩
  ·exact ⟨c.clock, rfl, .inr (.inr ⟨rfl, h0⟩), fun e => absurd e h0⟩
structure CJ (c : KCn) (t : Int) : Prop where
 i : CI { c with clock := -1 } t
 k : -1 ≤ c.clock ∧ c.clock ≤ c.now
theorem CI.cj {c : KCn} {t : Int} (h : CI c t) : CJ c t := ⟨{ h with k := ⟨Int.le_refl (-1), by have := h.n.1; show (-1 : Int) ≤ c.now; omega⟩, ck := fun _ => rfl }, h.k⟩
theorem CJ.settle {c : KCn} {t : Int} (h : CJ c t) : CI (cSettle c) t := by
 obtain ⟨x, e, hx, h0⟩ := cSettle_is c
 rw [e]
 have hn := h.i.n.1
 have hk := h.k
 exact { h.i with
  k := by
   show -1 ≤ x ∧ x ≤ c.now
   have hn' : 0 ≤ c.now := hn
   rcases hx with rfl | ⟨rfl, _⟩ | ⟨rfl, _⟩
   ·exact ⟨Int.le_refl _, by omega⟩
   ·exact ⟨by omega, Int.le_refl _⟩
   ·exact hk
  ck := h0 }
theorem halfZ_ok {m s l : Int} (f : Int) (h : WindowOk m s l) : WindowOk m m (halfZ m f) ∧ WindowOk m (halfZ m f) (halfZ m f) := by
 unfold WindowOk halfZ at *
 constructor <;> (refine ⟨?_, ?_, ?_, ?_, ?_, ?_⟩ <;> (repeat' split) <;> omega)
theorem cAckW_ok {d : KWd} (n : Int) (h : WindowOk d.m d.s d.l) : WindowOk (cAckW d n).m (cAckW d n).s (cAckW d n).l := by
 unfold cAckW
 split
 ·exact h
 ·rename_i hn
  obtain ⟨h1, h2, h3, h4, h5, h6⟩ := h
  obtain ⟨q1, q2, q3, q4⟩ := quo_bd d.m d.s h1 h2 h3
  show WindowOk d.m (ackZ d.m d.s d.l n) d.l
  unfold WindowOk ackZ minZ maxZ
  refine ⟨h1, h2, ?_, ?_, h5, h6⟩ <;> (repeat' split) <;> omega
theorem cSampled_ok {tm : KTm} (r : Int) (h : TimerOk tm.m tm.s tm.d) : TimerOk (cSampled tm r).m (cSampled tm r).s (cSampled tm r).d := by
 unfold cSampled
 split
 ·exact h
 ·split
  ·exact sample_ok _ _ _ _ h (by omega) (by omega)
  ·exact first_ok _ (by omega) (by omega)
theorem CJ.ackd {c : KCn} {t : Int} (h : CJ c t) (a : Int) (hh : c.h ≠ none) : CJ (cAckd c a) t := by
 obtain ⟨i, k⟩ := h
 have hf := (ack_fin i.o a).1
 refine ⟨{ i with
  o := ack_ok i.o a
  fin := by show oFin (oAck c.o a) ≤ _; rw [show oFin (oAck c.o a) = oFin c.o from hf]; exact i.fin
  ht := ?_
  g := ⟨Int.le_refl 0, (by decide : (0 : Int) ≤ 8)⟩
  same := ⟨Int.le_refl 0, ?_⟩
  me := ?_
  s1 := ?_
  s2 := ?_
  hn := ?_
  hs := ?_ }, ?_⟩
 ·show TimerOk (if 0 < c.meas ∧ c.meas ≤ a then cSampled c.tm (c.now - c.wh) else c.tm).m (if 0 < c.meas ∧ c.meas ≤ a then cSampled c.tm (c.now - c.wh) else c.tm).s (if 0 < c.meas ∧ c.meas ≤ a then cSampled c.tm (c.now - c.wh) else c.tm).d
  split
  ·exact cSampled_ok _ i.ht
  ·exact i.ht
 ·show (0 : Int) ≤ t
  have := i.rsl
  omega
 ·show 0 ≤ (if 0 < c.meas ∧ c.meas ≤ a then 0 else c.meas) ∧ (if 0 < c.meas ∧ c.meas ≤ a then 0 else c.meas) ≤ 2 + 2048 * t
  have := i.rsl
  split
  ·omega
  ·exact i.me
 ·intro e
  exact absurd (i.s1 e) hh
 ·intro e1 e2 e3
  have : c.h = none := by
   have e4 : c.h.map _ = none := e3
   cases hx : c.h with
   | none => rfl
   | some x => rw [hx] at e4; cases e4
  exact hh this
 ·intro e3
  have : c.h = none := by
   have e4 : c.h.map _ = none := e3
   cases hx : c.h with
   | none => rfl
   | some x => rw [hx] at e4; cases e4
  exact absurd this hh
 ·intro q d e
  obtain ⟨x, hx⟩ := Option.ne_none_iff_exists'.1 hh
  have e4 : c.h.map (fun x => (x.1, cAckW x.2 (cMany c.o a))) = some (q, d) := e
  rw [hx] at e4
  injection e4 with e5
  injection e5 with e6 e7
  have := i.hs x.1 x.2 hx
  rw [← e6, ← e7]
  exact ⟨this.1, cAckW_ok _ this.2.1, this.2.2⟩
 ·show -1 ≤ (-1 : Int) ∧ (-1 : Int) ≤ c.now
  have : 0 ≤ c.now := i.n.1
  omega
theorem CJ.mono {c : KCn} {t t' : Int} (h : CJ c t) (ht : t ≤ t') : CJ c t' := ⟨h.i.mono ht, h.k⟩
theorem CJ.st {c : KCn} {t : Int} (h : CJ c t) (x : Int) (h0 : c.st ≠ 0) (h1 : x ≠ 1) (hh : c.h ≠ none) : CJ { c with st := x } t :=
  ⟨{ h.i with
     s1 := fun e => absurd e h1
     s2 := fun _ _ => hh
     wy := fun _ => h.i.wy h0
     ck := fun _ => rfl }, h.k⟩
theorem CJ.closed {c : KCn} {t : Int} (h : CJ c t) (y : Int) : CJ (cClosed c y) t :=
  ⟨{ h.i with
     s1 := fun e => absurd (show (0 : Int) = 1 from e) (by decide)
     s2 := fun e => absurd rfl e
     wy := fun e => absurd rfl e
     ck := fun _ => rfl }, h.k⟩
theorem CJ.waits {c : KCn} {t : Int} (h : CJ c t) (h0 : c.st ≠ 0) (hh : c.h ≠ none) : CJ (cWait c) t := by
 have := h.st 9 h0 (by decide) hh
 exact ⟨{ this.i with }, this.k⟩
theorem CJ.owed {c : KCn} {t : Int} (h : CJ c t) (b : Bool) : CJ { c with owed := b } t := ⟨{ h.i with }, h.k⟩
theorem CJ.rst {c : KCn} {t : Int} (h : CJ c t) (x : Int) (hx : 0 ≤ x ∧ x ≤ 4294967295) : CJ { c with rs := c.rs ++ [x] } (t + 1) := by
 have h2 := h.mono (show t ≤ t + 1 by omega)
 refine ⟨{ h2.i with rsl := ?_, rsu := ?_ }, h2.k⟩
 ·have hl : (c.rs.length : Int) ≤ t := h.i.rsl
  show ((c.rs ++ [x]).length : Int) ≤ t + 1
  rw [List.length_append]
  simp only [List.length_singleton]
  omega
 ·intro n hn
  rcases List.mem_append.1 (show n ∈ c.rs ++ [x] from hn) with h3 | h3
  ·exact h.i.rsu n h3
  ·rw [List.mem_singleton.1 h3]; exact hx
theorem CJ.win {c : KCn} {t : Int} (h : CJ c t) (x a b : Int) (hx : 0 ≤ x ∧ x ≤ 65535) : CJ { c with wnd := x, wat := a, wak := b } t := ⟨{ h.i with w := hx }, h.k⟩
theorem CJ.same {c : KCn} {t : Int} (h : CJ c t) (g : KSeg) (hh : c.h ≠ none) : CJ (cSame c g) (t + 1) := by
 have h2 := h.mono (show t ≤ t + 1 by omega)
 have hs := h.i.same
 unfold cSame
 split
 ·rename_i h3
  obtain ⟨x, hx⟩ := Option.ne_none_iff_exists'.1 hh
  refine ⟨{ h2.i with same := ?_, me := ?_, s1 := ?_, s2 := ?_, hn := ?_, hs := ?_ }, h2.k⟩
  ·show 0 ≤ (3 : Int) ∧ (3 : Int) ≤ t + 1
   have hs' : 0 ≤ c.same ∧ c.same ≤ t := hs
   omega
  ·show 0 ≤ (0 : Int) ∧ (0 : Int) ≤ 2 + 2048 * (t + 1)
   have hs' : 0 ≤ c.same ∧ c.same ≤ t := hs
   omega
  ·exact fun e => absurd (h.i.s1 e) hh
  ·intro _ _ e
   have e4 : c.h.map _ = none := e
   rw [hx] at e4; cases e4
  ·intro e
   have e4 : c.h.map _ = none := e
   rw [hx] at e4; cases e4
  ·intro q d e
   have e4 : c.h.map (fun x => (x.1, (⟨x.2.m, halfZ x.2.m (c.o.cur - c.o.una), halfZ x.2.m (c.o.cur - c.o.una)⟩ : KWd))) = some (q, d) := e
   rw [hx] at e4
   injection e4 with e5
   injection e5 with e6 e7
   have h5 := h2.i.hs x.1 x.2 hx
   rw [← e6, ← e7]
   exact ⟨h5.1, (halfZ_ok _ h5.2.1).2, h5.2.2⟩
 ·refine ⟨{ h2.i with same := ?_ }, h2.k⟩
  show 0 ≤ c.same + 1 ∧ c.same + 1 ≤ t + 1
  have hs' : 0 ≤ c.same ∧ c.same ≤ t := hs
  omega
theorem cSame_h {c : KCn} (g : KSeg) (hh : c.h ≠ none) : (cSame c g).h ≠ none ∧ (cSame c g).st = c.st := by
 obtain ⟨x, hx⟩ := Option.ne_none_iff_exists'.1 hh
 unfold cSame
 split
 ·refine ⟨fun e => ?_, rfl⟩
  have e4 : c.h.map _ = none := e
  rw [hx] at e4; cases e4
 ·exact ⟨hh, rfl⟩
theorem cAckd_h {c : KCn} (a : Int) (hh : c.h ≠ none) : (cAckd c a).h ≠ none ∧ (cAckd c a).st = c.st := by
 obtain ⟨x, hx⟩ := Option.ne_none_iff_exists'.1 hh
 refine ⟨fun e => ?_, rfl⟩
 have e4 : c.h.map _ = none := e
 rw [hx] at e4; cases e4
theorem CJ.acks2 {c : KCn} {t : Int} (h : CJ c t) (g : KSeg) (at_ ack : Int) (h0 : c.st ≠ 0) (hh : c.h ≠ none) (hw : 0 ≤ g.win ∧ g.win ≤ 65535) :
  CJ (cAcks2 c g at_ ack).1 (t + 1) ∧ ((cAcks2 c g at_ ack).2 = true → (cAcks2 c g at_ ack).1.h ≠ none ∧ ((cAcks2 c g at_ ack).1.st = c.st ∨ (c.st = 4 ∧ (cAcks2 c g at_ ack).1.st = 5) ∨ (c.st = 7 ∧ (cAcks2 c g at_ ack).1.st = 9))) ∧
   ((cAcks2 c g at_ ack).2 = false → (cAcks2 c g at_ ack).1.st = c.st ∨ (cAcks2 c g at_ ack).1.st = 0) := by
 by_cases hs : c.o.sent < ack
 ·unfold cAcks2
  rw [if_pos hs]
  exact ⟨(h.owed true).mono (by omega), fun e => (by cases e), fun _ => .inl rfl⟩
 ·obtain ⟨c1, h1⟩ : ∃ z : KCn, z = if c.o.una < ack then cAckd c ack else if ack = c.o.una ∧ sgLen g = 0 ∧ c.o.una < c.o.cur ∧ g.win = c.wnd then cSame c g else c := ⟨_, rfl⟩
  obtain ⟨c2, h2⟩ : ∃ z : KCn, z = if c.o.una < ack ∨ (ack = c.o.una ∧ (c.wat < at_ ∨ (at_ = c.wat ∧ c.wak ≤ ack))) then { c1 with wnd := g.win, wat := at_, wak := ack } else c1 := ⟨_, rfl⟩
  rw [cAcks2_is hs h1 h2]
  have e1 : CJ c1 (t + 1) ∧ c1.h ≠ none ∧ c1.st = c.st := by
   rw [h1]
   split
   ·exact ⟨(h.ackd ack hh).mono (by omega), cAckd_h ack hh⟩
   ·split
    ·exact ⟨h.same g hh, cSame_h g hh⟩
    ·exact ⟨h.mono (by omega), hh, rfl⟩
  have e2 : CJ c2 (t + 1) ∧ c2.h ≠ none ∧ c2.st = c.st := by
   rw [h2]
   split
   ·exact ⟨e1.1.win _ _ _ hw, e1.2.1, e1.2.2⟩
   ·exact e1
  have h02 : c2.st ≠ 0 := by rw [e2.2.2]; exact h0
  split
  ·split
   ·rename_i h4
    exact ⟨e2.1.st 5 h02 (by decide) e2.2.1, fun _ => ⟨e2.2.1, .inr (.inl ⟨by rw [← e2.2.2]; exact h4, rfl⟩)⟩, fun e => by cases e⟩
   ·split
    ·rename_i h7
     exact ⟨e2.1.waits h02 e2.2.1, fun _ => ⟨e2.2.1, .inr (.inr ⟨by rw [← e2.2.2]; exact h7, rfl⟩)⟩, fun e => by cases e⟩
    ·split
     ·exact ⟨e2.1.closed 0, fun e => (by cases e), fun _ => .inr rfl⟩
     ·exact ⟨e2.1, fun _ => ⟨e2.2.1, .inl e2.2.2⟩, fun e => by cases e⟩
  ·exact ⟨e2.1, fun _ => ⟨e2.2.1, .inl e2.2.2⟩, fun e => by cases e⟩
theorem CJ.acks {c : KCn} {t : Int} (h : CJ c t) (g : KSeg) (at_ : Int) (h0 : c.st ≠ 0) (h1 : c.st ≠ 1) (hh : c.h ≠ none) (hw : 0 ≤ g.win ∧ g.win ≤ 65535) (hga : 0 ≤ g.ack ∧ g.ack ≤ 4294967295) :
  CJ (cAcks c g at_).1 (t + 1) ∧ ((cAcks c g at_).2 = true → (cAcks c g at_).1.h ≠ none ∧ ((cAcks c g at_).1.st = c.st ∨ (c.st = 2 ∧ ((cAcks c g at_).1.st = 3 ∨ (cAcks c g at_).1.st = 4 ∨ (cAcks c g at_).1.st = 5)) ∨ (c.st = 4 ∧ (cAcks c g at_).1.st = 5) ∨ (c.st = 7 ∧ (cAcks c g at_).1.st = 9))) ∧
   ((cAcks c g at_).2 = false → (cAcks c g at_).1.st = c.st ∨ (cAcks c g at_).1.st = 0 ∨ (c.st = 2 ∧ ((cAcks c g at_).1.st = 3 ∨ (cAcks c g at_).1.st = 4))) := by
 unfold cAcks
 split
 ·rename_i h2
  split
  ·exact ⟨h.rst _ hga, fun e => (by cases e), fun _ => .inl rfl⟩
  ·have hx : (if c.shut then (4 : Int) else 3) = 4 ∨ (if c.shut then (4 : Int) else 3) = 3 := by split <;> simp
   obtain ⟨x, hxx⟩ : ∃ z, z = (if c.shut then (4 : Int) else 3) := ⟨_, rfl⟩
   rw [← hxx] at hx ⊢
   have hj := h.st x h0 (by rcases hx with e | e <;> rw [e] <;> decide) hh
   have h3 := hj.acks2 g at_ (cAckAt c g) (by show x ≠ 0; rcases hx with e | e <;> rw [e] <;> decide) hh hw
   refine ⟨h3.1, fun e => ⟨(h3.2.1 e).1, ?_⟩, fun e => ?_⟩
   ·right; left
    refine ⟨h2, ?_⟩
    rcases (h3.2.1 e).2 with e1 | ⟨e1, e2⟩ | ⟨e1, e2⟩
    ·rw [e1]; rcases hx with hx | hx
     ·exact .inr (.inl hx)
     ·exact .inl hx
    ·exact .inr (.inr e2)
    ·have e3 : x = 7 := e1
     rcases hx with hx | hx <;> omega
   ·rcases h3.2.2 e with e1 | e1
    ·right; right
     refine ⟨h2, ?_⟩
     rw [e1]; rcases hx with hx | hx
     ·exact .inr hx
     ·exact .inl hx
    ·exact .inr (.inl e1)
 ·have h3 := h.acks2 g at_ (cAckAt c g) h0 hh hw
  refine ⟨h3.1, fun e => ⟨(h3.2.1 e).1, ?_⟩, fun e => ?_⟩
  ·rcases (h3.2.1 e).2 with e1 | e1 | e1
   ·exact .inl e1
   ·exact .inr (.inr (.inl e1))
   ·exact .inr (.inr (.inr e1))
  ·rcases h3.2.2 e with e1 | e1
   ·exact .inl e1
   ·exact .inr (.inl e1)
theorem CJ.takes {c : KCn} {t : Int} (h : CJ c t) (g : KSeg) (at_ : Int) (h0 : c.st ≠ 0) (h1 : c.st ≠ 1) (hh : c.h ≠ none) (ht : t ≤ 140737488355328) :
  CJ (cTakes c g at_) t ∧ ((cTakes c g at_).st = c.st ∨ (c.st = 3 ∧ (cTakes c g at_).st = 6) ∨ (c.st = 4 ∧ (cTakes c g at_).st = 7) ∨ (c.st = 5 ∧ (cTakes c g at_).st = 9)) := by
 have key : CJ (cTakes1 c g at_) t ∧ ((cTakes1 c g at_).st = c.st ∨ (c.st = 3 ∧ (cTakes1 c g at_).st = 6) ∨ (c.st = 4 ∧ (cTakes1 c g at_).st = 7) ∨ (c.st = 5 ∧ (cTakes1 c g at_).st = 9)) := by
  by_cases hc : c.st = 3 ∨ c.st = 4 ∨ c.st = 5
  ·obtain ⟨c2, hc2⟩ : ∃ z : KCn, z = { c with h := c.h.map fun x => (putQ x.1 at_ g.b g.fin, x.2) } := ⟨_, rfl⟩
   rw [cTakes1_a hc2 hc]
   obtain ⟨x, hx⟩ := Option.ne_none_iff_exists'.1 hh
   have e2 : c2.h = some (putQ x.1 at_ g.b g.fin, x.2) := by rw [hc2]; show c.h.map _ = _; rw [hx]; rfl
   have hs2 : c2.st = c.st := by rw [hc2]
   have hh2 : c2.h ≠ none := by rw [e2]; exact fun e => by cases e
   have hbd : t ≤ 281474976710655 := by omega
   have hj : CJ c2 t := by
    rw [hc2]
    refine ⟨{ h.i with s1 := fun e => absurd e h1, s2 := ?_, hn := ?_, hs := ?_ }, h.k⟩
    ·intro _ _ e
     have e4 : c.h.map _ = none := e
     rw [hx] at e4; cases e4
    ·intro e
     have e4 : c.h.map _ = none := e
     rw [hx] at e4; cases e4
    ·intro q d e
     have e4 : c.h.map (fun x => (putQ x.1 at_ g.b g.fin, x.2)) = some (q, d) := e
     rw [hx] at e4
     injection e4 with e5
     injection e5 with e6 e7
     have h5 := h.i.hs x.1 x.2 hx
     rw [← e6, ← e7]
     exact ⟨put_ok h5.1 (by have := h5.2.2; omega) _ _ _, h5.2.1, by rw [put_rd]; exact h5.2.2⟩
   split
   ·split
    ·rename_i h3
     exact ⟨hj.st 6 (by rw [hs2]; exact h0) (by decide) hh2, .inr (.inl ⟨h3, rfl⟩)⟩
    ·split
     ·rename_i h4
      exact ⟨hj.st 7 (by rw [hs2]; exact h0) (by decide) hh2, .inr (.inr (.inl ⟨h4, rfl⟩))⟩
     ·rename_i h3 h4
      refine ⟨hj.waits (by rw [hs2]; exact h0) hh2, .inr (.inr (.inr ⟨?_, rfl⟩))⟩
      rcases hc with e | e | e
      ·exact absurd e h3
      ·exact absurd e h4
      ·exact e
   ·exact ⟨hj, .inl hs2⟩
  ·unfold cTakes1
   rw [if_neg hc]
   split
   ·rename_i h9
    exact ⟨h.waits h0 hh, .inl h9.1.symm⟩
   ·exact ⟨h, .inl rfl⟩
 exact ⟨key.1.owed _, key.2⟩
def fol (a b : Int) : Prop :=
 a = b ∨ b = 0 ∨ (a = 1 ∧ (b = 2 ∨ b = 3)) ∨ (a = 2 ∧ (b = 3 ∨ b = 4 ∨ b = 6 ∨ b = 7 ∨ b = 5 ∨ b = 9)) ∨ (a = 3 ∧ (b = 4 ∨ b = 6)) ∨ (a = 4 ∧ (b = 5 ∨ b = 7 ∨ b = 9)) ∨ (a = 5 ∧ b = 9) ∨ (a = 7 ∧ b = 9) ∨ (a = 6 ∧ b = 8)
theorem fol_a {a b c : Int} (b1 : b = a ∨ (a = 2 ∧ (b = 3 ∨ b = 4 ∨ b = 5)) ∨ (a = 4 ∧ b = 5) ∨ (a = 7 ∧ b = 9)) (b2 : c = b ∨ (b = 3 ∧ c = 6) ∨ (b = 4 ∧ c = 7) ∨ (b = 5 ∧ c = 9)) : fol a c := by unfold fol; omega
theorem fol_b {a b : Int} (b1 : b = a ∨ b = 0 ∨ (a = 2 ∧ (b = 3 ∨ b = 4))) : fol a b := by unfold fol; omega
theorem CJ.next {c : KCn} {t : Int} (h : CJ c t) (g : KSeg) (h0 : c.st ≠ 0) (h1 : c.st ≠ 1) (hh : c.h ≠ none) (ht : t ≤ 140737488355320) (hw : 0 ≤ g.win ∧ g.win ≤ 65535) (hga : 0 ≤ g.ack ∧ g.ack ≤ 4294967295) :
  CJ (cNext c g) (t + 1) ∧ fol c.st (cNext c g).st := by
 have hm := h.mono (show t ≤ t + 1 by omega)
 have hA := h.acks g (cAt c g) h0 h1 hh hw hga
 unfold cNext
 split
 ·split
  ·rename_i h9
   exact ⟨(hm.owed (c.owed || !g.rst)).waits h0 hh, .inl h9.1⟩
  ·exact ⟨hm.owed _, .inl rfl⟩
 ·split
  ·exact ⟨hm.closed _, .inr (.inl rfl)⟩
  ·split
   ·exact ⟨hm.owed _, .inl rfl⟩
   ·split
    ·split
     ·rename_i h2
      obtain ⟨a1, a2, a3⟩ := hA
      have a4 := a2 h2
      have hs0 : (cAcks c g (cAt c g)).1.st ≠ 0 ∧ (cAcks c g (cAt c g)).1.st ≠ 1 := by
       rcases a4.2 with e | ⟨_, e | e | e⟩ | ⟨_, e⟩ | ⟨_, e⟩ <;> rw [e]
       ·exact ⟨h0, h1⟩
       all_goals exact ⟨by decide, by decide⟩
      have hT := a1.takes g (cAt c g) hs0.1 hs0.2 a4.1 (by omega)
      exact ⟨hT.1, fol_a a4.2 hT.2⟩
     ·rename_i h2
      obtain ⟨a1, a2, a3⟩ := hA
      exact ⟨a1, fol_b (a3 (by simpa using h2))⟩
    ·exact ⟨hm, .inl rfl⟩
theorem new_iq_ok : IqOk newIQ := by constructor <;> simp [newIQ]
theorem zero_newOQ : oFin newOQ = 1 := rfl
theorem CJ.syn {c : KCn} {t : Int} (h : CJ c t) (g : KSeg) (h1 : c.st = 1) (hw : 0 ≤ g.win ∧ g.win ≤ 65535) (hgs : 0 ≤ g.seq ∧ g.seq ≤ 4294967295) : CJ { cSyn c g with st := 2 } t ∧ CJ { cSyn c g with st := 3 } t := by
  have hm := cMss_bd g.mss h.i.own
  have hw2 : c.why = 0 := h.i.wy (by show c.st ≠ 0; rw [h1]; decide)
  have ht : 0 ≤ t := by have := h.i.rsl; omega
  have key : ∀ x : Int, x ≠ 1 → CJ { cSyn c g with st := x } t := fun x hx =>
    ⟨{ h.i with
       w := hw
       m := hm
       irs := hgs
       s1 := fun e => absurd e hx
       s2 := fun _ _ e => by cases e
       hn := fun e => by cases e
       wy := fun _ => hw2
       ck := fun _ => rfl
       hs := fun q d e => by
         injection e with e5
         injection e5 with e6 e7
         rw [← e6, ← e7]
         refine ⟨new_iq_ok, ?_, by show (1 : Int) ≤ _; omega⟩
         show WindowOk (cMss c.own g.mss) (2 * cMss c.own g.mss) 65535
         have hm' : 8 ≤ cMss c.own g.mss ∧ cMss c.own g.mss ≤ 1000 := hm
         unfold WindowOk
         omega }, h.k⟩
  exact ⟨key 2 (by decide), key 3 (by decide)⟩
theorem CJ.first {c : KCn} {t : Int} (h : CJ c t) (g : KSeg) (h1 : c.st = 1) (hw : 0 ≤ g.win ∧ g.win ≤ 65535) (hgs : 0 ≤ g.seq ∧ g.seq ≤ 4294967295) (hga : 0 ≤ g.ack ∧ g.ack ≤ 4294967295) :
  CJ (cFirst c g) (t + 1) ∧ fol c.st (cFirst c g).st := by
 have hm := h.mono (show t ≤ t + 1 by omega)
 have hS := h.syn g h1 hw hgs
 unfold cFirst
 split
 ·split
  ·exact ⟨hm, .inl rfl⟩
  ·exact ⟨h.rst _ hga, .inl rfl⟩
 ·split
  ·split
   ·exact ⟨hm.closed 11, .inr (.inl rfl)⟩
   ·exact ⟨hm, .inl rfl⟩
  ·split
   ·split
    ·have h2 := ((hS.2.ackd 1 (fun e => by cases e)).mono (show t ≤ t + 1 by omega)).owed true
     exact ⟨h2, by rw [h1]; exact .inr (.inr (.inl ⟨rfl, .inr rfl⟩))⟩
    ·have h2 := hS.1.mono (show t ≤ t + 1 by omega)
     refine ⟨⟨{ h2.i with o := back_ok h2.i.o, fin := h2.i.fin }, h2.k⟩, by rw [h1]; exact .inr (.inr (.inl ⟨rfl, .inl rfl⟩))⟩
   ·exact ⟨hm, .inl rfl⟩
theorem chk_win {g : KSeg} (h : tcChk g = 0) : 0 ≤ g.win ∧ g.win ≤ 65535 := by
 unfold tcChk at h
 split at h
 ·cases h
 ·rename_i h2
  unfold tcArg at h2
  simp only [Bool.or_eq_true, decide_eq_true_eq, not_or] at h2
  omega
theorem fol_in {c : KCn} {g : KSeg} : cInE c g ≠ 0 → cIn c g = c := fun h => by unfold cIn; rw [if_pos h]
theorem CI.in_ {c : KCn} {t : Int} (h : CI c t) (ht : t ≤ 140737488355320) (g : KSeg) (hg : SegOk g) :
  CI (cIn c g) (t + 1) ∧ fol c.st (cIn c g).st ∧ (c.st = 0 → (cIn c g).why = c.why) ∧ (cInE c g = 10 → c.st = 0) := by
 by_cases he : cInE c g = 0
 ·have hck : tcChk g = 0 := by
   unfold cInE at he
   split at he
   ·rename_i h2; exact absurd he h2
   ·rename_i h2; exact Decidable.byContradiction h2
  have hs0 : c.st ≠ 0 := by
   intro e0
   unfold cInE at he
   rw [if_neg (fun h2 => h2 hck)] at he
   split at he
   ·cases he
   ·exact absurd he (by decide)
  have e1 : cIn c g = cSettle (if c.st = 1 then cFirst c g else cNext c g) := by unfold cIn; rw [if_neg (fun h2 => h2 he)]
  have hw := chk_win hck
  rw [e1]
  have key : CJ (if c.st = 1 then cFirst c g else cNext c g) (t + 1) ∧ fol c.st (if c.st = 1 then cFirst c g else cNext c g).st := by
   split
   ·rename_i h1
    exact h.cj.first g h1 hw hg.seq hg.ack
   ·rename_i h1
    exact h.cj.next g hs0 h1 (h.s2 hs0 h1) ht hw hg.ack
  obtain ⟨x, e2, _, _⟩ := cSettle_is (if c.st = 1 then cFirst c g else cNext c g)
  refine ⟨key.1.settle, by rw [e2]; exact key.2, fun e => absurd e hs0, fun e => by rw [he] at e; cases e⟩
 ·rw [fol_in he]
  refine ⟨h.mono (by omega), .inl rfl, fun _ => rfl, fun e => ?_⟩
  unfold cInE at e
  split at e
  ·rename_i h2
   unfold tcChk at e
   split at e
   ·cases e
   ·split at e
    ·cases e
    ·split at e <;> cases e
  ·split at e
   ·cases e
   ·split at e
    ·rename_i h3; exact h3
    ·cases e
theorem CJ.late {c : KCn} {t : Int} (h : CJ c t) : CJ (cLate c) t ∧ ((cLate c).st = c.st ∨ (cLate c).st = 0) := by
  have hg := h.i.g
  have hn := h.i.n
  unfold cLate
  split
  · exact ⟨h.closed 13, .inr rfl⟩
  · rename_i h8
    have hg2 : 0 ≤ c.gone + 1 ∧ c.gone + 1 ≤ 8 := by
      have h1 : 0 ≤ c.gone ∧ c.gone ≤ 8 := hg
      omega
    have hk2 : -1 ≤ c.now ∧ c.now ≤ c.now := by
      have h1 : 0 ≤ c.now ∧ c.now ≤ 1099511627776 := hn
      omega
    split
    · exact ⟨⟨{ h.i with g := hg2, ht := late_ok _ _ _ h.i.ht }, hk2⟩, .inl rfl⟩
    · refine ⟨⟨{ h.i with
        o := back_ok h.i.o
        g := hg2
        ht := late_ok _ _ _ h.i.ht
        me := ?_
        s1 := ?_
        s2 := ?_
        hn := ?_
        hs := ?_ }, hk2⟩, .inl rfl⟩
      · show 0 ≤ (0 : Int) ∧ (0 : Int) ≤ 2 + 2048 * t
        have : (c.rs.length : Int) ≤ t := h.i.rsl
        omega
      · intro e
        show c.h.map _ = none
        rw [show c.h = none from h.i.s1 e]; rfl
      · intro e1 e2 e3
        have e4 : c.h.map _ = none := e3
        have e5 : c.h ≠ none := h.i.s2 e1 e2
        cases hx : c.h with
        | none => exact e5 hx
        | some x => rw [hx] at e4; cases e4
      · intro e3
        have e4 : c.h.map _ = none := e3
        have : c.h = none := by
          cases hx : c.h with
          | none => rfl
          | some x => rw [hx] at e4; cases e4
        exact h.i.hn this
      · intro q d e
        have e4 : c.h.map (fun x => (x.1, (⟨x.2.m, x.2.m, halfZ x.2.m (c.o.cur - c.o.una)⟩ : KWd))) = some (q, d) := e
        cases hx : c.h with
        | none => rw [hx] at e4; cases e4
        | some x =>
          rw [hx] at e4
          injection e4 with e5
          injection e5 with e6 e7
          have h5 := h.i.hs x.1 x.2 hx
          rw [← e6, ← e7]
          exact ⟨h5.1, (halfZ_ok _ h5.2.1).1, h5.2.2⟩
theorem CI.tick {c : KCn} {t : Int} (h : CI c t) (n : Int) (hn : 0 ≤ n) (hn2 : n ≤ 1099511627776 - c.now) :
  CI (cTick c n) t ∧ fol c.st (cTick c n).st ∧ (c.st = 0 → (cTick c n).why = c.why) := by
 have hj : CJ { c with now := c.now + n } t := by
  have h1 := h.n
  have h2 := h.wh
  have h3 := h.k
  refine ⟨{ h.cj.i with n := ?_, wh := ?_, k := ?_ }, ?_⟩
  ·show 0 ≤ c.now + n ∧ c.now + n ≤ 1099511627776; omega
  ·show -1 ≤ (-1 : Int) ∧ (-1 : Int) ≤ c.now + n; omega
  ·show 0 ≤ c.wh ∧ c.wh ≤ c.now + n; omega
  ·show -1 ≤ c.clock ∧ c.clock ≤ c.now + n; omega
 have key : ∀ x : KCn, CJ x t → fol c.st x.st → (c.st = 0 → x.why = c.why) → CI (cSettle x) t ∧ fol c.st (cSettle x).st ∧ (c.st = 0 → (cSettle x).why = c.why) := by
  intro x h1 h2 h3
  obtain ⟨y, e2, _, _⟩ := cSettle_is x
  refine ⟨h1.settle, ?_, ?_⟩
  ·rw [e2]; exact h2
  ·rw [e2]; exact h3
 unfold cTick
 dsimp only
 split
 ·rename_i h9
  exact key _ (hj.closed 0) (.inr (.inl rfl)) (fun e => by have := h9.1; omega)
 ·split
  ·rename_i hl
   have hl2 := hj.late
   refine key _ hl2.1 ?_ (fun e => by have := h.ck e; have := hl.1; omega)
   rcases hl2.2 with e | e
   ·exact .inl e.symm
   ·exact .inr (.inl e)
  ·exact key _ hj (.inl rfl) (fun _ => rfl)
theorem CI.write {c : KCn} {t : Int} (h : CI c t) (s : ByteArray) :
  CI (cWrite c s).1 (t + 1) ∧ (cWrite c s).1.st = c.st ∧ (cWrite c s).1.why = c.why := by
 have hm := h.mono (show t ≤ t + 1 by omega)
 unfold cWrite
 split
 ·exact ⟨hm, rfl, rfl⟩
 ·split
  ·exact ⟨hm, rfl, rfl⟩
  ·have hj : CJ { c with o := oWrite c.o s } (t + 1) := by
    refine ⟨{ hm.cj.i with o := write_ok h.o s, fin := ?_ }, h.k⟩
    have h1 := oWrite_len h.o s
    have h2 := oN_le h.o s.size
    have h3 := oRoom_bd h.o
    have h4 : oFin c.o = c.o.base + c.o.l.length := rfl
    have h5 : oFin (oWrite c.o s) = c.o.base + (oWrite c.o s).l.length := rfl
    have h6 := h.fin
    show oFin (oWrite c.o s) ≤ 1 + 2048 * (t + 1)
    omega
   obtain ⟨y, e2, _, _⟩ := cSettle_is { c with o := oWrite c.o s }
   refine ⟨hj.settle, ?_, ?_⟩
   ·show (cSettle { c with o := oWrite c.o s }).st = c.st
    rw [e2]
   ·show (cSettle { c with o := oWrite c.o s }).why = c.why
    rw [e2]
theorem CJ.step {c : KCn} {t : Int} (h : CJ c t) (lim : Int) (ht : 0 ≤ t) : CJ (cStep c lim) t ∧ (cStep c lim).st = c.st ∧ (cStep c lim).why = c.why ∧ (cStep c lim).rs = c.rs := by
 have hok : OqOk (oNext c.o lim c.mss) := next_ok h.i.o lim c.mss
 have hf : oFin (oNext c.o lim c.mss) = oFin c.o := rfl
 have hm : 0 ≤ (oNext c.o lim c.mss).cur ∧ (oNext c.o lim c.mss).cur ≤ 2 + 2048 * t := by
  have h1 := hok.uc
  have h2 := hok.cs
  have h3 := hok.se
  have h4 := hok.ee
  have h5 := qEnd_bd (q := oNext c.o lim c.mss)
  have h6 : oFin c.o ≤ 1 + 2048 * t := h.i.fin
  omega
 have hn : 0 ≤ c.now ∧ c.now ≤ c.now := ⟨h.i.n.1, Int.le_refl _⟩
 unfold cStep
 split
 ·exact ⟨⟨{ h.i with o := hok, fin := h.i.fin, me := hm, wh := hn }, h.k⟩, rfl, rfl, rfl⟩
 ·exact ⟨⟨{ h.i with o := hok, fin := h.i.fin }, h.k⟩, rfl, rfl, rfl⟩
theorem CJ.loop {t : Int} (ht : 0 ≤ t) (lim : Int) : ∀ (f : Nat) (c : KCn) (l : List KSeg), CJ c t → CJ (cLoop f c lim l).1 t ∧ (cLoop f c lim l).1.st = c.st ∧ (cLoop f c lim l).1.why = c.why ∧ (cLoop f c lim l).1.rs = c.rs
  | 0, c, l, h => ⟨h, rfl, rfl, rfl⟩
  | f + 1, c, l, h => by
    unfold cLoop
    split
    · have h1 := h.step lim ht
      have h2 := CJ.loop ht lim f (cStep c lim) (l ++ [cSegm c (cPc c lim)]) h1.1
      exact ⟨h2.1, h2.2.1.trans h1.2.1, h2.2.2.1.trans h1.2.2.1, h2.2.2.2.trans h1.2.2.2⟩
    · exact ⟨h, rfl, rfl, rfl⟩
theorem CI.out {c : KCn} {t : Int} (h : CI c t) : CI (cOut c).1 t ∧ (cOut c).1.st = c.st ∧ (cOut c).1.why = c.why ∧ (cOut c).1.rs = [] := by
 have ht : 0 ≤ t := by have := h.rsl; omega
 have h0 : CI { c with rs := [] } t := { h with rsl := by show ((0 : Nat) : Int) ≤ t; omega, rsu := fun n hn => by cases hn }
 unfold cOut
 dsimp only
 split
 ·exact ⟨h0, rfl, rfl, rfl⟩
 ·have h1 := CJ.loop ht (cLimit { c with rs := [] }) 2100 { c with rs := [] } (cFirstL { c with rs := [] } (c.rs.map (cRst c))) h0.cj
  obtain ⟨x, hx⟩ : ∃ z, z = cLoop 2100 { c with rs := [] } (cLimit { c with rs := [] }) (cFirstL { c with rs := [] } (c.rs.map (cRst c))) := ⟨_, rfl⟩
  rw [← hx] at h1 ⊢
  have h2 : CJ { x.1 with owed := x.1.owed && decide ((if x.1.owed = true ∧ x.2.length = (c.rs.map (cRst c)).length then x.2 ++ [cBare x.1 x.1.o.sent] else x.2).length = (c.rs.map (cRst c)).length), again := false, probe := false } t := ⟨{ h1.1.i with }, h1.1.k⟩
  have e : (cTail x (c.rs.map (cRst c)).length).1 = cSettle { x.1 with owed := x.1.owed && decide ((if x.1.owed = true ∧ x.2.length = (c.rs.map (cRst c)).length then x.2 ++ [cBare x.1 x.1.o.sent] else x.2).length = (c.rs.map (cRst c)).length), again := false, probe := false } := rfl
  rw [e]
  obtain ⟨y, e2, _, _⟩ := cSettle_is { x.1 with owed := x.1.owed && decide ((if x.1.owed = true ∧ x.2.length = (c.rs.map (cRst c)).length then x.2 ++ [cBare x.1 x.1.o.sent] else x.2).length = (c.rs.map (cRst c)).length), again := false, probe := false }
  refine ⟨h2.settle, ?_, ?_, ?_⟩ <;> rw [e2]
  ·exact h1.2.1
  ·exact h1.2.2.1
  ·exact h1.2.2.2
theorem cOut_quiet {c : KCn} (h0 : c.st = 0) (hr : c.rs = []) : cOut c = (c, []) := by
 unfold cOut
 dsimp only
 rw [if_pos h0, hr]
 congr 1
 obtain ⟨⟩ := c
 simp only at hr
 subst hr
 rfl
theorem CI.begin (la lp ra rp iss mss : Int) (hi : 0 ≤ iss ∧ iss ≤ 4294967295) (hm : 8 ≤ mss ∧ mss ≤ 1000) : CI { cNew la lp ra rp iss mss with st := 1 } 0 :=
 ⟨new_ok, by show oFin newOQ ≤ _; rw [zero_newOQ]; decide, zero_ok, ⟨Int.le_refl 0, (by decide : (0 : Int) ≤ 8)⟩, ⟨Int.le_refl 0, (by decide : (0 : Int) ≤ 1099511627776)⟩, ⟨Int.le_refl (-1), (by decide : (-1 : Int) ≤ 0)⟩, ⟨Int.le_refl 0, (by decide : (0 : Int) ≤ 65535)⟩, hm, hm, hi, ⟨Int.le_refl 0, (by decide : (0 : Int) ≤ 4294967295)⟩, ⟨Int.le_refl 0, Int.le_refl 0⟩, ⟨Int.le_refl 0, Int.le_refl 0⟩, ⟨Int.le_refl 0, (by decide : (0 : Int) ≤ 2 + 2048 * 0)⟩, Int.le_refl 0, fun n hn => (by cases hn), fun _ => rfl, fun _ h => absurd rfl h, fun _ => rfl, fun q d e => (by cases e), fun _ => rfl, fun e => absurd (show (1 : Int) = 0 from e) (by decide)⟩
set_option linter.unusedSectionVars false
set_option maxRecDepth 100000
section
variable {E : Nat → Prop} {w0 : World} (gc gi gw : Nat) (c : KCn) (k : KPt) (S : Res) (j : Int) (w : World) (hM : MemX E w0 w (S :: cnL gc gi gw c k [])) (hk : KOk k gi gw c.h) (hc : CI c j) (hj : j ≤ 999999999990)
include hM hk hc hj
end
end Go.Proofs.Ytfpifahkpkjfgaa
namespace Go.Proofs.Ytfpifahkpkjfgaa
open Go.ChangeShapes Go.WideShapes Go.ChangeAt Go.RowKit
set_option linter.unusedVariables false
inductive Kd where
 | int (k : IntKind)
 | bool
 | str
def okCell : Kd → Value → Prop
 | .int k, v => ∃ n, v = .int k n ∧ k.min ≤ n ∧ n ≤ k.max
 | .bool, v => ∃ x, v = .bool x
 | .str, v => ∃ s : ByteArray, v = .string s ∧ s.size ≤ 140737488351232
def okAll : List Kd → List Value → Prop
 | [], [] => True
 | k :: ks, v :: vs => okCell k v ∧ okAll ks vs
 | _, _ => False
def Small {H : Type} (P : Program) (t : TypeId) (d : DataW H) : Prop := ∀ n ∈ d.weights P t, n ≤ 140737488351232
section
variable {H : Type} {enc : TypeId × Value → H} {P : Program} {w : World} {base : Nat} {sp : Nat → Bool} {held : Bool} {fuel : Nat} {t : TypeId} {cs : List Value} {x : DataW H × List MemPlace}
end
structure Rows_ (w : World) (A : Option Addr) (len : Nat) (ks : List Kd) (css : Nat → List Value) : Prop where
 at_ : ∀ i, i < len → ∃ b off, A = some ⟨b, off, none⟩ ∧ w.rangeAt b (off + i * ks.length) (css i)
 ok : ∀ i, i < len → okAll ks (css i)
section
variable {H : Type} {enc : TypeId × Value → H} {P : Program} {w : World} {t e : TypeId} {ks : List Kd} {A : Option Addr} {n c : Nat} {d : DataW H} {ps : List MemPlace} {r : Reach} {b0 : Nat}
end
end Go.Proofs.Ytfpifahkpkjfgaa
namespace Go.Proofs.Ytfpifahkpkjfgaa
open Go.RowKit
set_option linter.unusedVariables false
theorem MemX.range {E : Nat → Prop} {w0 w : World} {l : List Res} {g : Nat} {t : TypeId} {cs : List Value} (hM : MemX E w0 w l) (k : Nat) (hk : l[k]? = some (atR g t cs)) : w.rangeAt g 0 cs := by
 intro j v hv
 rw [Nat.zero_add, hM.cells k hk j]
 exact hv
end Go.Proofs.Ytfpifahkpkjfgaa
namespace Go.Proofs.Ytfpifahkpkjfgaa
open Go.ChangeShapes Go.WideShapes Go.ChangeAt Go.RowKit
set_option linter.unusedVariables false
set_option maxRecDepth 100000
section
variable {H : Type} {enc : TypeId × Value → H} {w : World} {base : Nat} {sp : Nat → Bool} {held : Bool}
end
section
variable {H : Type} {enc : TypeId × Value → H} {w : World} {base : Nat} {sp : Nat → Bool} {held : Bool}
end
section
variable {H : Type} {enc : TypeId × Value → H} {w : World} {base : Nat} {sp : Nat → Bool} {held : Bool}
end
section
variable {H : Type} {enc : TypeId × Value → H} {w : World} {base : Nat} {sp : Nat → Bool} {held : Bool}
end
section
variable {H : Type} {enc : TypeId × Value → H} {w : World} {base : Nat} {sp : Nat → Bool} {held : Bool}
end
section
variable {H : Type} {enc : TypeId × Value → H} {w : World} {base : Nat} {sp : Nat → Bool} {held : Bool}
end
section
variable {H : Type} {enc : TypeId × Value → H} {w : World} {base : Nat} {sp : Nat → Bool} {held : Bool}
end
end Go.Proofs.Ytfpifahkpkjfgaa
namespace Go.Proofs.Ytfpifahkpkjfgaa
open Go.RowKit
set_option linter.unusedVariables false
theorem At.sub {w : World} {g i : Nat} {t : TypeId} {cs sub : List Value} (h : At w g t cs) (hs : (cs.drop i).take sub.length = sub) : w.rangeAt g i sub := by
 intro j u hj
 rw [h.cell]
 rw [← hs, List.getElem?_take] at hj
 split at hj
 ·rw [List.getElem?_drop] at hj; exact hj
 ·cases hj
theorem At.range {w : World} {g : Nat} {t : TypeId} {cs : List Value} (h : At w g t cs) : w.rangeAt g 0 cs := h.sub (by simp)
theorem wpList_loads_mem {E : Nat → Prop} {P : Program} {ops : Array Oper} {rest : List Oper} {op : Oper} {a : Act} {w0 w : World} {Q : Exit → Act → World → Prop} {l : List Res} (hgd : Region.wanted op (yielded ops a.tmps) = true) (T : TypeId) (x : Operand) (ho : op.op = .load T x) (k : Nat) (g i : Nat) (t : TypeId) (cs sub : List Value) (hM : MemX E w0 w l) (hk : l[k]? = some (atR g t cs)) (hx : a.eval x = .pointer (some ⟨g, i, none⟩))
  (hs : (cs.drop i).take sub.length = sub) (d : TypeDesc) (hu : P.underlying T = some d) (hd : d.isRow = true) (hi : (P.info? T).map (·.size) = some sub.length)
  (h : wpList P ops Q rest (a.put op.dst (.agg sub.toArray)) w) : wpList P ops Q (op :: rest) a w :=
 wpList_step fun K hK => by
  rw [if_pos hgd]
  exact wp_load_mid T x ho g i hx sub d ((hM.at_ k hk).sub hs) hu hd hi (hK _ _ h)
end Go.Proofs.Ytfpifahkpkjfgaa
namespace Go.Proofs.Ytfpifahkpkjfgaa
open Go.RowKit Go.Lib
set_option linter.unusedVariables false
set_option linter.unusedSimpArgs false
set_option maxRecDepth 100000
end Go.Proofs.Ytfpifahkpkjfgaa
