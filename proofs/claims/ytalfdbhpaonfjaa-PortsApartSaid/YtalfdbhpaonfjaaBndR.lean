/- What a row that is only read has room for. -/
import Derived.Test.YtalfdbhpaonfjaaBndO
namespace Go.Proofs.Ytalfdbhpaonfjaa
open Go.RowKit Go.Lib
set_option linter.unusedVariables false

theorem rdR_cap {α : Type} {f : α → List Value} {size : Nat} {A : Option Addr} {cap : Nat} {rs : List α} {W : World} (h : (rdR size f (.slice A rs.length cap) rs).P W) (hn : 0 < rs.length) : rs.length ≤ cap := by
  obtain ⟨g, off, c, hv, hWA⟩ := (rdR_pos h hn).pos hn
  injection hv with _ _ hc
  subst hc
  exact hWA.le
end Go.Proofs.Ytalfdbhpaonfjaa
