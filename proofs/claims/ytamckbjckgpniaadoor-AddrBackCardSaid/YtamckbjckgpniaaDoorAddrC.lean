/- Contracts of the package addr: mask, Check, Has. -/
import Derived.Test.YtamckbjckgpniaaDoorBase
namespace Go.Proofs.YtamckbjckgpniaaDoor
open Go.RowKit
set_option linter.unusedVariables false

theorem and_high (a k : Nat) (ha : a < 2 ^ 32) (hk : k ≤ 32) : a &&& (2 ^ 32 - 2 ^ k) = a - a % 2 ^ k := by
  have h1 : 2 ^ 32 - 2 ^ k = (2 ^ (32 - k) - 1) <<< k := by
    rw [Nat.shiftLeft_eq, Nat.sub_mul, ← Nat.pow_add, Nat.one_mul, Nat.sub_add_cancel hk]
  have h2 : a - a % 2 ^ k = (a >>> k) <<< k := by
    rw [Nat.shiftLeft_eq, Nat.shiftRight_eq_div_pow]
    have := Nat.div_add_mod a (2 ^ k)
    rw [Nat.mul_comm] at this
    omega
  rw [h1, h2]
  apply Nat.eq_of_testBit_eq
  intro i
  simp only [Nat.testBit_and, Nat.testBit_shiftLeft, Nat.testBit_shiftRight, Nat.testBit_two_pow_sub_one]
  by_cases hi : k ≤ i
  · simp only [hi, decide_true, Bool.true_and]
    rw [show k + (i - k) = i by omega]
    by_cases h32 : i < 32
    · simp [show i - k < 32 - k by omega]
    · have : a.testBit i = false := Nat.testBit_lt_two_pow (Nat.lt_of_lt_of_le ha (Nat.pow_le_pow_right (by omega) (by omega)))
      simp [this]
  · simp [hi]
theorem and_low (a k : Nat) (ha : a < 2 ^ 32) (hk : k ≤ 32) : a &&& (4294967295 - (2 ^ 32 - 2 ^ k)) = a % 2 ^ k := by
  have h : 2 ^ k ≤ 2 ^ 32 := Nat.pow_le_pow_right (by omega) hk
  have h0 : 0 < 2 ^ k := Nat.pos_of_neZero _
  rw [show 4294967295 - (2 ^ 32 - 2 ^ k) = 2 ^ k - 1 by omega, Nat.and_two_pow_sub_one_eq_mod]

/-- how many addresses a prefix of n bits has -/
def sizeZ (n : Int) : Int := 2 ^ (32 - n).toNat
theorem sizeZ_lo (n : Int) : 1 ≤ sizeZ n := by
  unfold sizeZ
  have : 0 < 2 ^ (32 - n).toNat := Nat.pos_of_neZero _
  have h : ((2 ^ (32 - n).toNat : Nat) : Int) = (2 : Int) ^ (32 - n).toNat := by simp
  omega
theorem sizeZ_hi (n : Int) (h : 0 ≤ n) : sizeZ n ≤ 4294967296 := by
  unfold sizeZ
  have : 2 ^ (32 - n).toNat ≤ 2 ^ 32 := Nat.pow_le_pow_right (by omega) (by omega)
  have h : ((2 ^ (32 - n).toNat : Nat) : Int) = (2 : Int) ^ (32 - n).toNat := by simp
  omega
def maskZ (n : Int) : Int := 4294967296 - sizeZ n
theorem maskZ_lo (n : Int) (h : 0 ≤ n) : 0 ≤ maskZ n := by have := sizeZ_hi n h; unfold maskZ; omega
theorem maskZ_hi (n : Int) : maskZ n ≤ 4294967295 := by have := sizeZ_lo n; unfold maskZ; omega
theorem maskZ_eq (n : Int) (h : 0 ≤ n) : 4294967295 * 2 ^ (32 - n).toNat % 4294967296 = maskZ n := by
  have h1 := sizeZ_lo n
  have h2 := sizeZ_hi n h
  show 4294967295 * sizeZ n % 4294967296 = 4294967296 - sizeZ n
  omega
theorem bits_and (a n : Int) (h : 0 ≤ a) (h' : a ≤ 4294967295) (hn : 0 ≤ n) (hn' : n ≤ 32) : bits .and .u32 a (maskZ n) = a - a % sizeZ n := by
  obtain ⟨A, rfl⟩ := Int.eq_ofNat_of_zero_le h
  have e1 : maskZ n = ((2 ^ 32 - 2 ^ (32 - n).toNat : Nat) : Int) := by
    have : 2 ^ (32 - n).toNat ≤ 2 ^ 32 := Nat.pow_le_pow_right (by omega) (by omega)
    unfold maskZ sizeZ
    rw [Int.natCast_sub this]; simp
  have e2 : sizeZ n = ((2 ^ (32 - n).toNat : Nat) : Int) := by unfold sizeZ; simp
  have h0 : 0 < 2 ^ (32 - n).toNat := Nat.pos_of_neZero _
  rw [e1, e2, u32_and_nat A _ (by omega) (by omega), and_high A _ (by omega) (by omega)]
  have h1 : A % 2 ^ (32 - n).toNat ≤ A := Nat.mod_le _ _
  omega
theorem bits_andNot (a n : Int) (h : 0 ≤ a) (h' : a ≤ 4294967295) (hn : 0 ≤ n) (hn' : n ≤ 32) : bits .andNot .u32 a (maskZ n) = a % sizeZ n := by
  obtain ⟨A, rfl⟩ := Int.eq_ofNat_of_zero_le h
  have e1 : maskZ n = ((2 ^ 32 - 2 ^ (32 - n).toNat : Nat) : Int) := by
    have : 2 ^ (32 - n).toNat ≤ 2 ^ 32 := Nat.pow_le_pow_right (by omega) (by omega)
    unfold maskZ sizeZ
    rw [Int.natCast_sub this]; simp
  have e2 : sizeZ n = ((2 ^ (32 - n).toNat : Nat) : Int) := by unfold sizeZ; simp
  have h0 : 0 < 2 ^ (32 - n).toNat := Nat.pos_of_neZero _
  rw [e1, e2, u32_andNot_nat A _ (by omega) (by omega), and_low A _ (by omega) (by omega)]
  omega


set_option maxHeartbeats 400000 in
theorem mask_any (n : Int) (w : World) (_h : 0 ≤ n) (_h' : n ≤ 32) :
    Calls Tryd.prog 15 #[.int .i64 n] w fun e w' => e = .returned (.int .u32 (maskZ n)) ∧ w = w' := by
  go_enter Tryd.func15, Tryd.ntmps15
  go_wp2
  go_ret
  exact ⟨ret_int (maskZ_eq n _h), rfl⟩

/-- Check -/
def chkZ (a n : Int) : Int := if n < 0 ∨ 32 < n then 1 else if a % sizeZ n ≠ 0 then 4 else 0
theorem chk_arg {a n : Int} (h : n < 0 ∨ 32 < n) : chkZ a n = 1 := by unfold chkZ; rw [if_pos h]
theorem chk_form {a n : Int} (h : 0 ≤ n) (h' : n ≤ 32) (h2 : a % sizeZ n ≠ 0) : chkZ a n = 4 := by unfold chkZ; rw [if_neg (by omega), if_pos h2]
theorem chk_ok {a n : Int} (h : 0 ≤ n) (h' : n ≤ 32) (h2 : a % sizeZ n = 0) : chkZ a n = 0 := by unfold chkZ; rw [if_neg (by omega), if_neg (by simpa using h2)]
theorem chk_01 (a n : Int) : chkZ a n = 0 ∨ chkZ a n = 1 ∨ chkZ a n = 4 := by
  by_cases h : n < 0 ∨ 32 < n
  · rw [chk_arg h]; omega
  · by_cases h2 : a % sizeZ n = 0
    · rw [chk_ok (by omega) (by omega) h2]; omega
    · rw [chk_form (by omega) (by omega) h2]; omega

set_option maxHeartbeats 400000 in
theorem Check_any (a n : Int) (w : World) (_h : 0 ≤ a) (_h' : a ≤ 4294967295) (hn : -9223372036854775808 ≤ n) (hn' : n ≤ 9223372036854775807) :
    Calls Tryd.prog 8 #[.agg #[.int .u32 a, .int .i64 n]] w fun e w' => e = .returned (.int .i64 (chkZ a n)) ∧ Below w.heap.size w w' := by
  by_cases h1 : n < 0
  · have hr := Lib.hid (chk_arg (a := a) (.inl h1))
    go_enter Tryd.func8, Tryd.ntmps8
    go_wp2
    go_ret
    exact ⟨ret_int hr.out.symm, (Below.refl _ _).alloc (Nat.le_refl _) _⟩
  · by_cases h2 : 32 < n
    · have hr := Lib.hid (chk_arg (a := a) (.inr h2))
      go_enter Tryd.func8, Tryd.ntmps8
      go_wp2
      go_ret
      exact ⟨ret_int hr.out.symm, (Below.refl _ _).alloc (Nat.le_refl _) _⟩
    · have hb := bits_andNot a n _h _h' (by omega) (by omega)
      by_cases h3 : a % sizeZ n = 0
      · have hr := Lib.hid (chk_ok (by omega) (by omega) h3)
        go_enter Tryd.func8, Tryd.ntmps8
        go_wp2_with fail
        go_quiet ((go_at_call 15; exact quiet_l (mask_any _ _ (by omega) (by omega))))
        go_wp2
        go_ret
        exact ⟨ret_int hr.out.symm, below_dn ((Below.refl _ _).alloc (Nat.le_refl _) _) _⟩
      · have hr := Lib.hid (chk_form (by omega) (by omega) h3)
        go_enter Tryd.func8, Tryd.ntmps8
        go_wp2_with fail
        go_quiet ((go_at_call 15; exact quiet_l (mask_any _ _ (by omega) (by omega))))
        go_wp2
        go_ret
        exact ⟨ret_int hr.out.symm, below_dn ((Below.refl _ _).alloc (Nat.le_refl _) _) _⟩

/-- Has -/
def hasB (p n a : Int) : Bool := decide (chkZ p n = 0 ∧ a - a % sizeZ n = p)
theorem has_no {p n a : Int} (h : chkZ p n ≠ 0) : hasB p n a = false := by unfold hasB; simp [h]
theorem has_yes {p n a : Int} (h : chkZ p n = 0) : hasB p n a = (a - a % sizeZ n == p) := by unfold hasB; simp [h]; rfl
theorem chk_zero {p n : Int} (h : chkZ p n = 0) : 0 ≤ n ∧ n ≤ 32 ∧ p % sizeZ n = 0 := by
  unfold chkZ at h
  split at h
  · cases h
  · split at h
    · cases h
    · exact ⟨by omega, by omega, by omega⟩

end Go.Proofs.YtamckbjckgpniaaDoor
