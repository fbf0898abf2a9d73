/- What ConnStops needs, a part: CnF, CnN. -/
import Derived.Test.YtfpifahkpkjfgaaMConnStops14
namespace Go.Proofs.Ytfpifahkpkjfgaa
open Go.RowKit Go.Lib
set_option linter.unusedVariables false
set_option linter.unusedSimpArgs false
def hL (gi gw : Nat) : Option (IQ × KWd) → List Res
 | none => []
 | some (q, d) => [iqR gi q, wdR gw d]
def KOk (k : KPt) (gi gw : Nat) : Option (IQ × KWd) → Prop
 | none => k.vi = .pointer none ∧ k.vw = .pointer none
 | some _ => k.vi = .pointer (some ⟨gi, 0, none⟩) ∧ k.vw = .pointer (some ⟨gw, 0, none⟩)
def cnL (gc gi gw : Nat) (c : KCn) (k : KPt) (m : List Res) : List Res := oqA k.go c.o k.vo :: oqB c.o k.vo :: cnA gc c k :: tmR k.gt c.tm :: rsR k.vr c.rs :: (hL gi gw c.h ++ m)
structure COk (c : KCn) : Prop where
 ok : OqOk c.o
 hb : c.o.base ≤ 1152921504606846976
 ht : TimerOk c.tm.m c.tm.s c.tm.d
 g1 : 0 ≤ c.gone
 g2 : c.gone ≤ 8
 n1 : 0 ≤ c.now
 n2 : c.now ≤ 1099511627776
 k1 : -1 ≤ c.clock
 k2 : c.clock ≤ c.now
 w1 : 0 ≤ c.wnd
 w2 : c.wnd ≤ 65535
 m1 : 8 ≤ c.mss
 m2 : c.mss ≤ 1000
 hn : c.h = none → c.o.una = 0
 hs : ∀ q d, c.h = some (q, d) → IqOk q ∧ WindowOk d.m d.s d.l
theorem COk.cur {c : KCn} (h : COk c) : 0 ≤ c.o.una ∧ c.o.una ≤ c.o.cur ∧ c.o.cur ≤ c.o.sent ∧ c.o.sent ≤ 1152921504606850000 := by
 have h1 := h.ok
 have h2 := h.hb
 have h3 := qEnd_bd (q := c.o)
 have h4 := h1.ee
 have h5 := h1.len
 have h6 : oFin c.o = c.o.base + c.o.l.length := rfl
 exact ⟨h1.uc, h1.cs, h1.se, by omega⟩
section
variable {E : Nat → Prop} {w0 : World} (gc gi gw : Nat) (c : KCn) (k : KPt) (m : List Res) (w : World)
theorem bare_all (at_ : Int) (hM : MemX E w0 w (cnL gc gi gw c k m)) (hk : KOk k gi gw c.h) (hc : COk c) :
    Calls Try.prog 42 #[.pointer (some ⟨gc, 0, none⟩), .int .i64 at_] w fun e w' => e = .returned (.agg (cSeg (cBare c at_)).toArray) ∧ MemX E w0 w' (cnL gc gi gw c k m) := by
  unfold cnL at *
  cases hh : c.h with
  | none =>
    rw [hh] at hM hk
    exact bare_none gc c k at_ _ w hM hh hk.1
  | some x =>
    obtain ⟨q, d⟩ := x
    rw [hh] at hM hk
    exact bare_some gc c k gi q d at_ (wdR gw d :: m) w hM hh hk.1 (hc.hs q d hh).1
theorem bareOk_all (hk : KOk k gi gw c.h) (hc : COk c) : BareOk gc c k (tmR k.gt c.tm :: rsR k.vr c.rs :: (hL gi gw c.h ++ m)) := by
 intro E w0 x at_ w hM
 have := bare_all gc gi gw c k (m ++ x) w at_ (E := E) (w0 := w0) (by
  unfold cnL
  rw [← List.append_assoc]; exact hM) hk hc
 unfold cnL at this
 rw [← List.append_assoc] at this
 exact this
theorem segment_all (p : KPiece) (hM : MemX E w0 w (cnL gc gi gw c k m)) (hk : KOk k gi gw c.h) (hc : COk c) :
  Calls Try.prog 37 #[.pointer (some ⟨gc, 0, none⟩), .agg (cPiece p).toArray] w fun e w' => e = .returned (.agg (cSeg (cSegm c p)).toArray) ∧ MemX E w0 w' (cnL gc gi gw c k m) :=
 segment_any gc c k p _ w hM (bareOk_all gc gi gw c k m hk hc)
theorem limit_all (hM : MemX E w0 w (cnL gc gi gw c k m)) (hk : KOk k gi gw c.h) (hc : COk c) :
    Calls Try.prog 38 #[.pointer (some ⟨gc, 0, none⟩)] w fun e w' => e = .returned (.int .i64 (cLimit c)) ∧ MemX E w0 w' (cnL gc gi gw c k m) := by
  by_cases h0 : c.o.una = 0
  · exact limit_zero gc c k _ w hM h0
  · cases hh : c.h with
    | none => exact absurd (hc.hn hh) h0
    | some x =>
      obtain ⟨q, d⟩ := x
      have h1 := hc.cur
      have h2 := (hc.hs q d hh).2
      unfold cnL at *
      rw [hh] at hM hk ⊢
      exact limit_some gc c k gi gw q d m w hM hh hk.2 h0 h1.1 (by omega) hc.w1 hc.w2 (by have := h2.1; have := h2.2.2.1; omega) h2.2.2.2.1
theorem tick_all (n : Int) (hM : MemX E w0 w (cnL gc gi gw c k m)) (hk : KOk k gi gw c.h) (hc : COk c) (hn : 0 ≤ n) (hn2 : n ≤ 1099511627776 - c.now) :
    Calls Try.prog 18 #[.pointer (some ⟨gc, 0, none⟩), .int .i64 n] w fun e w' => e = .returned (.int .i64 0) ∧ MemX E w0 w' (cnL gc gi gw (cTick c n) k m) ∧ KOk k gi gw (cTick c n).h := by
  have h1 := hc.cur
  have hb : c.o.base ≤ 4611686018427387904 := by have := hc.hb; omega
  cases hh : c.h with
  | none =>
    unfold cnL at *
    rw [hh] at hM hk
    have hR : (cTick c n).rs = c.rs ∧ (cTick c n).h = none := by
      unfold cTick
      obtain ⟨_, _, e3, e4⟩ := cSettle_o (if { c with now := c.now + n }.st = 9 ∧ { c with now := c.now + n }.ends ≤ { c with now := c.now + n }.now then cClosed { c with now := c.now + n } 0 else if 0 ≤ { c with now := c.now + n }.clock ∧ valZ { c with now := c.now + n }.tm.k { c with now := c.now + n }.tm.m { c with now := c.now + n }.tm.s { c with now := c.now + n }.tm.d ≤ { c with now := c.now + n }.now - { c with now := c.now + n }.clock then cLate { c with now := c.now + n } else { c with now := c.now + n })
      rw [e3, e4]
      split
      · exact ⟨rfl, hh⟩
      · split
        · unfold cLate
          split
          · exact ⟨rfl, hh⟩
          · split
            · exact ⟨rfl, hh⟩
            · exact ⟨rfl, by show c.h.map _ = none; rw [hh]; rfl⟩
        · exact ⟨rfl, hh⟩
    refine (tick_none gc c k n _ w hM hc.ok hb hc.ht hc.g1 hc.g2 hc.n1 hc.n2 hc.k1 hc.k2 hn hn2 (by omega) hh hk.2).mono ?_
    rintro e w' ⟨rfl, h⟩
    rw [hR.1, hR.2]
    exact ⟨rfl, h, hk⟩
  | some x =>
    obtain ⟨q, d⟩ := x
    unfold cnL at *
    rw [hh] at hM hk
    have h2 := (hc.hs q d hh).2
    refine (tick_some gc c k gi gw q d n m w hM hc.ok hb hc.ht hc.g1 hc.g2 hc.n1 hc.n2 hc.k1 hc.k2 hn hn2 (by omega) hh hk.2 h2).mono ?_
    rintro e w' ⟨rfl, d', h3, h⟩
    rw [h3]
    exact ⟨rfl, h, hk⟩
end
def cRst (c : KCn) (n : Int) : KSeg := ⟨c.la, c.lp, c.ra, c.rp, n, 0, false, false, false, true, 0, 0, ⟨#[]⟩⟩
def cPc (c : KCn) (lim : Int) : KPiece := qPiece c.o c.o.cur lim c.mss
def cIsP (c : KCn) (lim : Int) : Bool := oIs c.o c.o.cur lim c.mss
def cStep (c : KCn) (lim : Int) : KCn :=
 if (cPc c lim).at_ = c.o.sent ∧ c.meas = 0 then { c with o := oNext c.o lim c.mss, meas := (oNext c.o lim c.mss).cur, wh := c.now } else { c with o := oNext c.o lim c.mss }
def cLoop : Nat → KCn → Int → List KSeg → KCn × List KSeg
 | 0, c, _, l => (c, l)
 | f + 1, c, lim, l => if cIsP c lim = true then cLoop f (cStep c lim) lim (l ++ [cSegm c (cPc c lim)]) else (c, l)
def cTail (x : KCn × List KSeg) (n0 : Nat) : KCn × List KSeg :=
 let l3 := if x.1.owed = true ∧ x.2.length = n0 then x.2 ++ [cBare x.1 x.1.o.sent] else x.2
 (cSettle { x.1 with owed := x.1.owed && decide (l3.length = n0), again := false, probe := false }, l3)
def cFirstL (c : KCn) (l : List KSeg) : List KSeg :=
 if c.again = true ∧ oIs c.o c.o.una c.o.sent c.mss = true then l ++ [cSegm c (qPiece c.o c.o.una c.o.sent c.mss)] else l
def cOut (c : KCn) : KCn × List KSeg :=
 let l0 := c.rs.map (cRst c)
 let c0 := { c with rs := [] }
 if c.st = 0 then (c0, l0) else cTail (cLoop 2100 c0 (cLimit c0) (cFirstL c0 l0)) l0.length
def cLeft (c : KCn) : Nat := (qEnd c.o - c.o.cur).toNat
theorem cStep_h (c : KCn) (lim : Int) : (cStep c lim).h = c.h ∧ (cStep c lim).o = oNext c.o lim c.mss ∧ (cStep c lim).rs = c.rs ∧ (cStep c lim).tm = c.tm ∧ (cStep c lim).mss = c.mss := by
 unfold cStep; split <;> exact ⟨rfl, rfl, rfl, rfl, rfl⟩
theorem COk.step {c : KCn} (h : COk c) (lim : Int) : COk (cStep c lim) := by
 have e := cStep_h c lim
 have hx : ∀ (a b : Int), COk { c with o := oNext c.o lim c.mss, meas := a, wh := b } := fun a b =>
  ⟨next_ok h.ok lim c.mss, h.hb, h.ht, h.g1, h.g2, h.n1, h.n2, h.k1, h.k2, h.w1, h.w2, h.m1, h.m2, h.hn, h.hs⟩
 unfold cStep
 split
 ·exact hx _ _
 ·exact hx c.meas c.wh
theorem cStep_left {c : KCn} (h : COk c) {lim : Int} (hi : cIsP c lim = true) : cLeft (cStep c lim) < cLeft c := by
 have e := (cStep_h c lim).2.1
 obtain ⟨_, _, _, p4, _, p6, _⟩ := piece_is h.ok lim c.mss hi
 unfold cLeft
 rw [e]
 have e2 : (oNext c.o lim c.mss).cur = c.o.cur + oLen (qPiece c.o c.o.cur lim c.mss) := rfl
 have e3 : qEnd (oNext c.o lim c.mss) = qEnd c.o := rfl
 rw [e2, e3]
 omega
theorem cLeft_bd {c : KCn} (h : COk c) : cLeft c ≤ 2060 := by
 have h1 := h.ok
 have h2 := h1.len
 have h3 := qEnd_bd (q := c.o)
 have h4 : oFin c.o = c.o.base + c.o.l.length := rfl
 have h5 := h1.cs
 have h6 := h1.ba
 have h7 := h1.uc
 unfold cLeft
 rcases h1.rel with ⟨a, b⟩ | ⟨a, b⟩
 ·omega
 ·split at b <;> omega
theorem cLoop_stop {c : KCn} {lim : Int} {l : List KSeg} (f : Nat) (h : cIsP c lim = false) : cLoop f c lim l = (c, l) := by
 cases f with
 | zero => rfl
 | succ f => unfold cLoop; rw [if_neg (by rw [h]; decide)]
theorem cLoop_go {c : KCn} {lim : Int} {l : List KSeg} (f : Nat) (h : cIsP c lim = true) : cLoop (f + 1) c lim l = cLoop f (cStep c lim) lim (l ++ [cSegm c (cPc c lim)]) := by
 conv => lhs; unfold cLoop
 rw [if_pos h]
theorem cLimit_bd {c : KCn} (h : COk c) : 0 ≤ cLimit c ∧ cLimit c ≤ 1152921504607000000 := by
  have h1 := h.cur
  have h2 := h.w1
  have h3 := h.w2
  unfold cLimit
  split
  · omega
  · cases hh : c.h with
    | none => simp only; split <;> (try split) <;> omega
    | some x =>
      obtain ⟨q, d⟩ := x
      have h4 := (h.hs q d hh).2
      have h5 := h4.1
      have h6 := h4.2.2.1
      have h7 := h4.2.2.2.1
      simp only
      by_cases a : d.s < c.wnd
      · rw [if_pos a]
        split <;> (try split) <;> omega
      · rw [if_neg a]
        split <;> (try split) <;> omega
theorem COk.next {c : KCn} (h : COk c) (lim : Int) : COk { c with o := oNext c.o lim c.mss } := ⟨next_ok h.ok lim c.mss, h.hb, h.ht, h.g1, h.g2, h.n1, h.n2, h.k1, h.k2, h.w1, h.w2, h.m1, h.m2, h.hn, h.hs⟩
end Go.Proofs.Ytfpifahkpkjfgaa
