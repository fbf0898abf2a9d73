/- The plain laws of PortsOthers and PortsFound. -/
import Derived.Test.YtalfdbhpaonfjaaBndK
namespace Go.Proofs.Ytalfdbhpaonfjaa
open Go.RowKit Go.Lib
set_option linter.unusedVariables false
set_option linter.unusedSimpArgs false

theorem Rows_.kept_ {w W : World} {A : Option Addr} {n : Nat} {ks : List Kd} {css : Nat → List Value} (h : Rows_ w A n ks css) (hb : Below w.heap.size w W) : Rows_ W A n ks css :=
  ⟨fun i hi => by
    obtain ⟨b, off, e, hr⟩ := h.at_ i hi
    exact ⟨b, off, e, range_kept hr hb⟩, h.ok⟩
theorem best_other {l : List KBound} {b : KBound} {pr : Int} {lc rm : KEnd} (h : ¬ (b.pr = pr ∧ b.lp = lc.p)) : pBest (l ++ [b]) pr lc rm = pBest l pr lc rm := by
  unfold pBest
  rw [List.filter_append, List.map_append]
  have hs : pSel pr lc rm b = false := by
    unfold pSel
    by_cases h1 : b.pr = pr
    · have h2 : ¬ b.lp = lc.p := fun e => h ⟨h1, e⟩
      simp [h2]
    · simp [h1]
  simp [hs]
theorem find_other {l : List KBound} {b : KBound} {pr : Int} {lc rm : KEnd} {n : Nat} (h : ¬ (b.pr = pr ∧ b.lp = lc.p)) : pFind (pBind l b) pr lc rm n = pFind l pr lc rm n := by
  unfold pBind
  split
  · unfold pFind
    rw [best_other (lc := lc) (rm := rm) h, best_other (lc := lc) (rm := ⟨0, 0⟩) h, best_other (lc := ⟨0, lc.p⟩) (rm := ⟨0, 0⟩) h]
  · rfl
theorem binv_bind' {l : List KBound} (h : BInv l) (b : KBound) : (pBind l b).length ≤ 32 := by
  have := h.len
  unfold pBind
  split
  · rename_i h1
    rw [List.length_append]
    have := h1.2.2
    simp; omega
  · exact this
end Go.Proofs.Ytalfdbhpaonfjaa
