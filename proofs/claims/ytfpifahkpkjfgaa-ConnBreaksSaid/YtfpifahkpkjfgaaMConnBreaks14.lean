/- What ConnBreaks needs, a part: CnN. -/
import Derived.Test.YtfpifahkpkjfgaaMZ
import Derived.Test.YtfpifahkpkjfgaaMConnBreaks13
/- conn: Out (plain). -/
namespace Go.Proofs.Ytfpifahkpkjfgaa
open Go.RowKit Go.Lib
set_option linter.unusedVariables false
set_option linter.unusedSimpArgs false
/-- what is sent for one that must be broken off -/
def cRst (c : KCn) (n : Int) : KSeg := ⟨c.la, c.lp, c.ra, c.rp, n, 0, false, false, false, true, 0, 0, ⟨#[]⟩⟩
def cPc (c : KCn) (lim : Int) : KPiece := qPiece c.o c.o.cur lim c.mss
def cIsP (c : KCn) (lim : Int) : Bool := oIs c.o c.o.cur lim c.mss
def cStep (c : KCn) (lim : Int) : KCn :=
 if (cPc c lim).at_ = c.o.sent ∧ c.meas = 0 then { c with o := oNext c.o lim c.mss, meas := (oNext c.o lim c.mss).cur, wh := c.now } else { c with o := oNext c.o lim c.mss }
def cLoop : Nat → KCn → Int → List KSeg → KCn × List KSeg
 | 0, c, _, l => (c, l)
 | f + 1, c, lim, l => if cIsP c lim = true then cLoop f (cStep c lim) lim (l ++ [cSegm c (cPc c lim)]) else (c, l)
/-- behind the loop -/
def cTail (x : KCn × List KSeg) (n0 : Nat) : KCn × List KSeg :=
 let l3 := if x.1.owed = true ∧ x.2.length = n0 then x.2 ++ [cBare x.1 x.1.o.sent] else x.2
 (cSettle { x.1 with owed := x.1.owed && decide (l3.length = n0), again := false, probe := false }, l3)
def cFirstL (c : KCn) (l : List KSeg) : List KSeg :=
 if c.again = true ∧ oIs c.o c.o.una c.o.sent c.mss = true then l ++ [cSegm c (qPiece c.o c.o.una c.o.sent c.mss)] else l
def cOut (c : KCn) : KCn × List KSeg :=
 let l0 := c.rs.map (cRst c)
 let c0 := { c with rs := [] }
 if c.st = 0 then (c0, l0) else cTail (cLoop 2100 c0 (cLimit c0) (cFirstL c0 l0)) l0.length
/-- how much is left -/
def cLeft (c : KCn) : Nat := (qEnd c.o - c.o.cur).toNat
theorem cStep_h (c : KCn) (lim : Int) : (cStep c lim).h = c.h ∧ (cStep c lim).o = oNext c.o lim c.mss ∧ (cStep c lim).rs = c.rs ∧ (cStep c lim).tm = c.tm ∧ (cStep c lim).mss = c.mss := by
 unfold cStep; split <;> exact ⟨rfl, rfl, rfl, rfl, rfl⟩
theorem COk.step {c : KCn} (h : COk c) (lim : Int) : COk (cStep c lim) := by
 have e := cStep_h c lim
 have hx : ∀ (a b : Int), COk { c with o := oNext c.o lim c.mss, meas := a, wh := b } := fun a b =>
  ⟨next_ok h.ok lim c.mss, h.hb, h.ht, h.g1, h.g2, h.n1, h.n2, h.k1, h.k2, h.w1, h.w2, h.m1, h.m2, h.hn, h.hs⟩
 unfold cStep
 split
 ·exact hx _ _
 ·exact hx c.meas c.wh
theorem cStep_left {c : KCn} (h : COk c) {lim : Int} (hi : cIsP c lim = true) : cLeft (cStep c lim) < cLeft c := by
 have e := (cStep_h c lim).2.1
 obtain ⟨_, _, _, p4, _, p6, _⟩ := piece_is h.ok lim c.mss hi
 unfold cLeft
 rw [e]
 have e2 : (oNext c.o lim c.mss).cur = c.o.cur + oLen (qPiece c.o c.o.cur lim c.mss) := rfl
 have e3 : qEnd (oNext c.o lim c.mss) = qEnd c.o := rfl
 rw [e2, e3]
 omega
theorem cLeft_bd {c : KCn} (h : COk c) : cLeft c ≤ 2060 := by
 have h1 := h.ok
 have h2 := h1.len
 have h3 := qEnd_bd (q := c.o)
 have h4 : oFin c.o = c.o.base + c.o.l.length := rfl
 have h5 := h1.cs
 have h6 := h1.ba
 have h7 := h1.uc
 unfold cLeft
 rcases h1.rel with ⟨a, b⟩ | ⟨a, b⟩
 ·omega
 ·split at b <;> omega
theorem cLoop_stop {c : KCn} {lim : Int} {l : List KSeg} (f : Nat) (h : cIsP c lim = false) : cLoop f c lim l = (c, l) := by
 cases f with
 | zero => rfl
 | succ f => unfold cLoop; rw [if_neg (by rw [h]; decide)]
theorem cLoop_go {c : KCn} {lim : Int} {l : List KSeg} (f : Nat) (h : cIsP c lim = true) : cLoop (f + 1) c lim l = cLoop f (cStep c lim) lim (l ++ [cSegm c (cPc c lim)]) := by
 conv => lhs; unfold cLoop
 rw [if_pos h]
theorem cLimit_bd {c : KCn} (h : COk c) : 0 ≤ cLimit c ∧ cLimit c ≤ 1152921504607000000 := by
  have h1 := h.cur
  have h2 := h.w1
  have h3 := h.w2
  unfold cLimit
  split
  · omega
  · cases hh : c.h with
    | none => simp only; split <;> (try split) <;> omega
    | some x =>
      obtain ⟨q, d⟩ := x
      have h4 := (h.hs q d hh).2
      have h5 := h4.1
      have h6 := h4.2.2.1
      have h7 := h4.2.2.2.1
      simp only
      by_cases a : d.s < c.wnd
      · rw [if_pos a]
        split <;> (try split) <;> omega
      · rw [if_neg a]
        split <;> (try split) <;> omega
theorem COk.next {c : KCn} (h : COk c) (lim : Int) : COk { c with o := oNext c.o lim c.mss } := ⟨next_ok h.ok lim c.mss, h.hb, h.ht, h.g1, h.g2, h.n1, h.n2, h.k1, h.k2, h.w1, h.w2, h.m1, h.m2, h.hn, h.hs⟩
end Go.Proofs.Ytfpifahkpkjfgaa
