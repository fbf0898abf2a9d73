/- Contracts of the package seq: what Diff, Less, In, Accept and Near return, and of Rest; each for all arguments that fit their types. -/
import Derived.Test.YtpjcbjacdkobmaaRest
namespace Go.Proofs.Ytpjcbjacdkobmaa
open Go.RowKit
set_option linter.unusedVariables false

/-- int(int32(a - b)) -/
def dZ (a b : Int) : Int := (a - b + 2147483648) % 4294967296 - 2147483648
theorem dZ_lo (a b : Int) : -2147483648 ≤ dZ a b := by unfold dZ; omega
theorem dZ_hi (a b : Int) : dZ a b ≤ 2147483647 := by unfold dZ; omega
def inB (n from_ many : Int) : Bool := decide (0 < many ∧ (n - from_) % 4294967296 < many)
theorem inB_pos {n f m : Int} (h : 0 < m) : inB n f m = decide ((n - f) % 4294967296 < m) := by unfold inB; simp [h]
theorem inB_neg {n f m : Int} (h : m ≤ 0) : inB n f m = false := by unfold inB; simp; omega






def accB (n l next win : Int) : Bool :=
  if l < 1 then (if win < 1 then n == next else inB n next win) else if win < 1 then false else (inB n next win || inB ((n + l - 1) % 4294967296) next win)

theorem accB_a {n l x win : Int} (h1 : l < 1) (h2 : win < 1) : accB n l x win = (n == x) := by simp [accB, h1, h2]
theorem accB_b {n l x win : Int} (h1 : l < 1) (h2 : 1 ≤ win) : accB n l x win = inB n x win := by simp only [accB]; rw [if_pos h1, if_neg (by omega)]
theorem accB_c {n l x win : Int} (h1 : 1 ≤ l) (h2 : win < 1) : accB n l x win = false := by simp only [accB]; rw [if_neg (by omega), if_pos h2]
theorem accB_d {n l x win : Int} (h1 : 1 ≤ l) (h2 : 1 ≤ win) : accB n l x win = (inB n x win || inB ((n + l - 1) % 4294967296) x win) := by simp only [accB]; rw [if_neg (by omega), if_neg (by omega)]


def nearZ (n at_ : Int) : Int := at_ + dZ n (at_ % 4294967296)
end Go.Proofs.Ytpjcbjacdkobmaa
