/- Rows by a function. -/
import Derived.Test.YtfpifahkpkjfgaaBase
namespace Go.Proofs.Ytfpifahkpkjfgaa
open Go.RowKit
set_option linter.unusedVariables false

/-- a row of cells by a function -/
def fnL {β : Type} (n : Nat) (f : Nat → β) : List β := (List.range n).map f
theorem fnL_len {β : Type} (n : Nat) (f : Nat → β) : (fnL n f).length = n := by simp [fnL]
theorem fnL_get {β : Type} (n : Nat) (f : Nat → β) (k : Nat) (h : k < n) : (fnL n f)[k]? = some (f k) := by simp [fnL, h]
theorem fnL_congr {β : Type} (n : Nat) (f g : Nat → β) (h : ∀ k, k < n → f k = g k) : fnL n f = fnL n g := by
  unfold fnL
  exact List.map_congr_left fun k hk => h k (List.mem_range.1 hk)
theorem fnL_set {β : Type} (n : Nat) (f : Nat → β) (i : Nat) (v : β) : (fnL n f).set i v = fnL n fun k => if k = i then v else f k := by
  apply List.ext_getElem?
  intro k
  by_cases hk : k < n
  · rw [fnL_get _ _ _ hk, List.getElem?_set]
    by_cases e : i = k
    · subst e; simp [fnL_len, hk]
    · rw [if_neg e, fnL_get _ _ _ hk, if_neg (fun x => e x.symm)]
  · rw [List.getElem?_eq_none (by simp [fnL_len]; omega), List.getElem?_eq_none (by simp [fnL_len]; omega)]
theorem fnL_const {β : Type} (n : Nat) (v : β) : List.replicate n v = fnL n fun _ => v := by
  apply List.ext_getElem?
  intro k
  by_cases hk : k < n
  · rw [fnL_get _ _ _ hk]; simp [hk]
  · rw [List.getElem?_eq_none (by simp; omega), List.getElem?_eq_none (by simp [fnL_len]; omega)]
attribute [irreducible] fnL
end Go.Proofs.Ytfpifahkpkjfgaa
