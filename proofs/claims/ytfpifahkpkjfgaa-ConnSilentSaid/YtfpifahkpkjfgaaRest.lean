/- The contract of Rest. -/
import Derived.Test.YtfpifahkpkjfgaaBase
namespace Go.Proofs.Ytfpifahkpkjfgaa
open Go.RowKit
set_option linter.unusedVariables false

/-- Rest: what is left of n, from 0 to m - 1 -/
theorem mod_of_tmod (n m : Int) (hm : 0 < m) : (if n.tmod m < 0 then n.tmod m + m else n.tmod m) = n % m := by
  by_cases hn : 0 ≤ n
  · rw [Int.tmod_eq_emod_of_nonneg hn]
    have := Int.emod_nonneg n (show m ≠ 0 by omega)
    rw [if_neg (by omega)]
  · have h1 : n.tmod m = -((-n) % m) := by
      rw [show n = -(-n) by omega, Int.neg_tmod, Int.tmod_eq_emod_of_nonneg (by omega)]; simp
    have h2 := Int.emod_nonneg (-n) (show m ≠ 0 by omega)
    have h3 := Int.emod_lt_of_pos (-n) hm
    have h4 := Int.mul_ediv_add_emod (-n) m
    by_cases hz : (-n) % m = 0
    · rw [h1, hz]; simp
      exact (Int.emod_eq_zero_of_dvd (by have := Int.dvd_of_emod_eq_zero hz; exact (Int.dvd_neg).1 this)).symm
    · rw [h1, if_pos (by omega)]
      have e : n = (m + -(-n % m)) + m * (-(-n / m) - 1) := by rw [Int.mul_sub, Int.mul_neg]; omega
      have e2 : n % m = m + -(-n % m) := by
        conv => lhs; rw [e]
        rw [Int.add_mul_emod_self_left, Int.emod_eq_of_lt (by omega) (by omega)]
      omega

theorem tmod_bd (n m : Int) (hm : 0 < m) : -m < n.tmod m ∧ n.tmod m < m := by
  have h1 := Int.tmod_lt_of_pos n hm
  have h2 := Int.tmod_lt_of_pos (-n) hm
  rw [Int.neg_tmod] at h2
  omega

set_option maxHeartbeats 400000 in
theorem Rest_any (n m : Int) (w : World) (_hn : -9223372036854775808 ≤ n) (_hn' : n ≤ 9223372036854775807) (_hm : 0 < m) (_hm' : m ≤ 9223372036854775807) :
    Calls Try.prog 13 #[.int .i64 n, .int .i64 m] w fun e w' => e = .returned (.int .i64 (n % m)) ∧ w = w' := by
  have hb := tmod_bd n m _hm
  obtain ⟨hb1, hb2⟩ := hb
  have hm := mod_of_tmod n m _hm
  have HM := Lib.hid hm
  clear hm
  by_cases hz : n.tmod m < 0
  · by_cases h0 : 0 ≤ n
    · exfalso; rw [Int.tmod_eq_emod_of_nonneg h0] at hz; have := Int.emod_nonneg n (show m ≠ 0 by omega); omega
    go_enter Try.func13, Try.ntmps13
    go_wp2
    go_ret
    exact ⟨ret_int (by rw [← HM.out, if_pos hz]), rfl⟩
  · by_cases h0 : 0 ≤ n
    · have h1 : n.tmod m = n % m := Int.tmod_eq_emod_of_nonneg h0
      have h2 := Int.emod_nonneg n (show m ≠ 0 by omega)
      clear hb1 hb2 hz h1
      go_enter Try.func13, Try.ntmps13
      go_wp2
      go_ret
      exact ⟨rfl, rfl⟩
    · go_enter Try.func13, Try.ntmps13
      go_wp2
      go_ret
      exact ⟨ret_int (by rw [← HM.out, if_neg (by omega)]), rfl⟩
end Go.Proofs.Ytfpifahkpkjfgaa
