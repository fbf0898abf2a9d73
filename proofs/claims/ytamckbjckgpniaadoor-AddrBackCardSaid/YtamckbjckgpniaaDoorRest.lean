/- The contract of Rest. -/
import Derived.Test.YtamckbjckgpniaaDoorBase
namespace Go.Proofs.YtamckbjckgpniaaDoor
open Go.RowKit
set_option linter.unusedVariables false

/-- Rest: what is left of n, from 0 to m - 1 -/
theorem mod_of_tmod (n m : Int) (hm : 0 < m) : (if n.tmod m < 0 then n.tmod m + m else n.tmod m) = n % m := by
  by_cases hn : 0 ≤ n
  · rw [Int.tmod_eq_emod_of_nonneg hn]
    have := Int.emod_nonneg n (show m ≠ 0 by omega)
    rw [if_neg (by omega)]
  · have h1 : n.tmod m = -((-n) % m) := by
      rw [show n = -(-n) by omega, Int.neg_tmod, Int.tmod_eq_emod_of_nonneg (by omega)]; simp
    have h2 := Int.emod_nonneg (-n) (show m ≠ 0 by omega)
    have h3 := Int.emod_lt_of_pos (-n) hm
    have h4 := Int.mul_ediv_add_emod (-n) m
    by_cases hz : (-n) % m = 0
    · rw [h1, hz]; simp
      exact (Int.emod_eq_zero_of_dvd (by have := Int.dvd_of_emod_eq_zero hz; exact (Int.dvd_neg).1 this)).symm
    · rw [h1, if_pos (by omega)]
      have e : n = (m + -(-n % m)) + m * (-(-n / m) - 1) := by rw [Int.mul_sub, Int.mul_neg]; omega
      have e2 : n % m = m + -(-n % m) := by
        conv => lhs; rw [e]
        rw [Int.add_mul_emod_self_left, Int.emod_eq_of_lt (by omega) (by omega)]
      omega

theorem tmod_bd (n m : Int) (hm : 0 < m) : -m < n.tmod m ∧ n.tmod m < m := by
  have h1 := Int.tmod_lt_of_pos n hm
  have h2 := Int.tmod_lt_of_pos (-n) hm
  rw [Int.neg_tmod] at h2
  omega

end Go.Proofs.YtamckbjckgpniaaDoor
