/- Maps keyed by an int. -/
import Derived.Test.YtmcdmgnpbhkdhaaMap
namespace Go.Proofs.Ytmcdmgnpbhkdhaa
open Go.RowKit
set_option linter.unusedVariables false

abbrev fInt (x : Int) : Value := .int .i64 x
theorem fInt_inj {a b : Int} (h : fInt a = fInt b) : a = b := by injection h
theorem keyed_int : Go.Maps.Keyed Try.prog 3 := Go.Maps.int_keyed Try.underlying3
theorem keyOk_int {k : Int} (h : -9223372036854775808 ≤ k ∧ k ≤ 9223372036854775807) : KeyOk Try.prog 3 fInt k := by
  have m3 : IntKind.i64.min = -9223372036854775808 := rfl
  have m4 : IntKind.i64.max = 9223372036854775807 := rfl
  exact ⟨_, Go.Maps.keyOf_int_mk Try.underlying3 (by simp only [Lit.wf, m3, m4, Bool.and_eq_true, decide_eq_true_eq]; omega)⟩
end Go.Proofs.Ytmcdmgnpbhkdhaa
