/- The step of Cover: the least of the zeros behind a number and the length of what is left is the largest that fits. -/
import Derived.Test.YtlehknaiddidaaaDoorCovL
import Derived.Lib.TrailingZeros
import Derived.Lib.BitFns
namespace Go.Proofs.YtlehknaiddidaaaDoor
set_option linter.unusedVariables false

theorem bl_spec : ∀ (k x : Nat), x < 2 ^ k → k ≤ 64 → x < 2 ^ Lib.bitLen x ∧ (x ≠ 0 → 2 ^ (Lib.bitLen x - 1) ≤ x ∧ 0 < Lib.bitLen x)
  | 0, x, h, _ => by
    have : x = 0 := by simpa using h
    subst this
    exact ⟨by decide, fun h => absurd rfl h⟩
  | k + 1, x, h, hk => by
    by_cases h0 : x = 0
    · subst h0; exact ⟨by decide, fun h => absurd rfl h⟩
    · have h64 : x < 2 ^ 64 := Nat.lt_of_lt_of_le h (Nat.pow_le_pow_right (by omega) hk)
      rw [Lib.bitLen_half x h0 h64]
      have hx : x / 2 < 2 ^ k := by rw [Nat.pow_succ] at h; omega
      obtain ⟨i1, i2⟩ := bl_spec k (x / 2) hx (by omega)
      refine ⟨by rw [Nat.add_comm 1, Nat.pow_succ]; omega, fun _ => ⟨?_, by omega⟩⟩
      rw [Nat.add_comm 1, Nat.add_sub_cancel]
      by_cases h1 : x / 2 = 0
      · have : x = 1 := by omega
        subst this
        decide
      · obtain ⟨j1, j2⟩ := i2 h1
        obtain ⟨m, hm⟩ : ∃ m, Lib.bitLen (x / 2) = m + 1 := ⟨Lib.bitLen (x / 2) - 1, by omega⟩
        rw [hm, Nat.add_sub_cancel] at j1
        rw [hm, Nat.pow_succ]; omega
/-- how large the piece at a is -/
def cvN (e a : Nat) : Nat := min (Lib.ctz 64 (4294967296 + a)) (Lib.bitLen (e - a) - 1)
theorem ctz_at (a : Nat) (h : a < 4294967296) : Lib.ctz 64 (4294967296 + a) ≤ 32 ∧ 2 ^ Lib.ctz 64 (4294967296 + a) ∣ a ∧ (Lib.ctz 64 (4294967296 + a) = 32 ∨ ¬ 2 ^ (Lib.ctz 64 (4294967296 + a) + 1) ∣ a) := by
  obtain ⟨m, hm, hk⟩ := Lib.ctzFrom_spec 64 (4294967296 + a) (by omega) (by omega)
  have e : Lib.ctz 64 (4294967296 + a) = Lib.ctzFrom 64 (4294967296 + a) := by unfold Lib.ctz; rw [if_neg (by omega)]
  rw [← e] at hm hk
  generalize Lib.ctz 64 (4294967296 + a) = k at *
  have h32 : k ≤ 32 := by
    by_cases h33 : k ≤ 32
    · exact h33
    · have h1 : 2 ^ 33 ≤ 2 ^ k := Nat.pow_le_pow_right (by omega) (by omega)
      have h2 : 2 ^ k ≤ 2 ^ k * (2 * m + 1) := Nat.le_mul_of_pos_right _ (by omega)
      omega
  have hd : 2 ^ k ∣ 4294967296 + a := ⟨_, hm⟩
  have hd2 : (2 : Nat) ^ k ∣ 4294967296 := by
    have := Nat.pow_dvd_pow 2 h32
    exact this
  refine ⟨h32, (Nat.dvd_add_right hd2).1 hd, ?_⟩
  by_cases h3 : k = 32
  · exact .inl h3
  · refine .inr fun hc => ?_
    have hd3 : (2 : Nat) ^ (k + 1) ∣ 4294967296 := Nat.pow_dvd_pow 2 (show k + 1 ≤ 32 by omega)
    obtain ⟨c, hc⟩ := Nat.dvd_add hd3 hc
    rw [hm, Nat.pow_succ, Nat.mul_assoc] at hc
    have := Nat.eq_of_mul_eq_mul_left (Nat.two_pow_pos k) hc
    omega
theorem cv_ok (e a : Nat) (h : a < e) (he : e ≤ 4294967296) : CvOk e a (cvN e a) ∧ cvN e a ≤ 32 := by
  obtain ⟨h1, h2, h3⟩ := ctz_at a (by omega)
  obtain ⟨b1, b2⟩ := bl_spec 64 (e - a) (by omega) (by omega)
  obtain ⟨b2, hb⟩ := b2 (by omega)
  unfold cvN
  generalize Lib.ctz 64 (4294967296 + a) = k at *
  generalize Lib.bitLen (e - a) = n at *
  have hn : 2 ^ n = 2 * 2 ^ (n - 1) := by
    obtain ⟨m, rfl⟩ : ∃ m, n = m + 1 := ⟨n - 1, by omega⟩
    rw [Nat.add_sub_cancel, Nat.pow_succ]; omega
  rcases Nat.le_total k (n - 1) with hk | hk
  · rw [Nat.min_eq_left hk]
    have hp : 2 ^ k ≤ 2 ^ (n - 1) := Nat.pow_le_pow_right (by omega) hk
    refine ⟨⟨h2, by omega, ?_⟩, h1⟩
    rcases h3 with h3 | h3
    · right; rw [h3]; omega
    · exact .inl h3
  · rw [Nat.min_eq_right hk]
    refine ⟨⟨Nat.dvd_trans (Nat.pow_dvd_pow 2 hk) h2, by omega, .inr ?_⟩, by omega⟩
    rw [show n - 1 + 1 = n by omega]; omega
end Go.Proofs.YtlehknaiddidaaaDoor
