/- The walk of SumBit: it returns true. -/
import Derived.Test.YtlehknaiddidaaaSumP
import Derived.Test.YtlehknaiddidaaaTurned
namespace Go.Proofs.Ytlehknaiddidaaa
open Go.RowKit
set_option linter.unusedVariables false

/-- a turned bit moves the sum of the words by a power of two below 2^16 -/
theorem wsum_turn : ∀ (l : List UInt8) (i j : Nat), i < l.length → j < 8 → ∃ k : Nat, k < 16 ∧ (wsum (turnL l i j) = wsum l + ((2 ^ k : Nat) : Int) ∨ wsum (turnL l i j) + ((2 ^ k : Nat) : Int) = wsum l)
  | [], i, j, hi, _ => by simp at hi
  | [a], i, j, hi, hj => by
    have h0 : i = 0 := by simp at hi; exact hi
    subst h0
    refine ⟨j + 8, by omega, ?_⟩
    have e : (2 ^ (j + 8) : Nat) = 2 ^ j * 256 := by rw [Nat.pow_add]
    rw [e]
    simp only [turnL, List.modify_zero_cons, wsum]
    have := flipB_pm a j hj
    generalize 2 ^ j = p at *
    omega
  | a :: b :: r, 0, j, hi, hj => by
    refine ⟨j + 8, by omega, ?_⟩
    have e : (2 ^ (j + 8) : Nat) = 2 ^ j * 256 := by rw [Nat.pow_add]
    rw [e]
    simp only [turnL, List.modify_zero_cons, wsum]
    have := flipB_pm a j hj
    generalize 2 ^ j = p at *
    omega
  | a :: b :: r, 1, j, hi, hj => by
    refine ⟨j, by omega, ?_⟩
    simp only [turnL, List.modify_succ_cons, List.modify_zero_cons, wsum]
    have := flipB_pm b j hj
    generalize 2 ^ j = p at *
    omega
  | a :: b :: r, i + 2, j, hi, hj => by
    obtain ⟨k, hk, h⟩ := wsum_turn r i j (by simp at hi; omega) hj
    refine ⟨k, hk, ?_⟩
    simp only [turnL, List.modify_succ_cons, wsum] at *
    omega
theorem pow_16 : ∀ k : Fin 16, (2 ^ k.val : Nat) % 65535 ≠ 0 := by decide
theorem sum_turn (l : List UInt8) (i j : Nat) (hi : i < l.length) (hj : j < 8) : sumZ (turnL l i j) ≠ sumZ l := by
  obtain ⟨k, hk, h⟩ := wsum_turn l i j hi hj
  have h1 := wsum_lo l
  have h2 := wsum_lo (turnL l i j)
  have h3 := foldZ_mod _ h1
  have h4 := foldZ_mod _ h2
  have h5 := pow_16 ⟨k, hk⟩
  simp only at h5
  intro e
  unfold sumZ at e
  rw [e] at h4
  generalize 2 ^ k = p at *
  omega
theorem sum_one : sumZ [1] = 256 := by
  have : (1 : UInt8).toNat = 1 := rfl
  simp [sumZ, wsum, foldZ]

set_option maxHeartbeats 400000 in
theorem w_SumBit (s0 : ByteArray) (a1 : Int) (a2 : Int) (w : World) (hs0 : s0.size ≤ 140737488351232) (ha1 : -9223372036854775808 ≤ a1) (ha1' : a1 ≤ 9223372036854775807) (ha2 : -9223372036854775808 ≤ a2) (ha2' : a2 ≤ 9223372036854775807) :
    Calls Try.prog 8 #[.string s0, .int .i64 a1, .int .i64 a2] w fun e w' => e = .returned (.bool true) ∧ Below w.heap.size w w' := by
  have H1 := sum_one
  have H0 := sum_empty
  by_cases h : s0.size = 0
  · have he := str_none h
    have hl : s0.data.toList = [] := List.eq_nil_of_length_eq_zero (by rw [data_len, h])
    clear h
    go_enter Try.func8, Try.ntmps8
    go_wp2_with (first
      | (go_at_call 19; go_must (refine (Sum_is _ _ (by first | omega | (show Array.size (ByteArray.data _) ≤ _; simp <;> omega))).mono ?_; rintro e w1 ⟨rfl, hb1⟩)))
    go_ret
    refine ⟨rfl, ?_⟩
    repeat' (first | exact Below.refl _ _ | with_reducible assumption | refine Below.drew ?_ | refine below_dn ?_ _ | refine below_ca ?_ _ | refine Below.setCell ?_ ?_ _ | (refine below_c ?_ (by with_reducible assumption)) | (simp <;> omega) | omega)
  · have he := str_some (u := s0) (by omega)
    obtain ⟨i, hi⟩ := Int.eq_ofNat_of_zero_le (Int.emod_nonneg a1 (show (s0.size : Int) ≠ 0 by omega))
    have hi2 := Int.emod_lt_of_pos a1 (show (0 : Int) < s0.size by omega)
    obtain ⟨j, hj⟩ := Int.eq_ofNat_of_zero_le (Int.emod_nonneg a2 (show (8 : Int) ≠ 0 by omega))
    have hj2 := Int.emod_lt_of_pos a2 (show (0 : Int) < 8 by omega)
    have H2 := sum_turn s0.data.toList i j (by rw [data_len]; omega) (by omega)
    have H3 : (sumZ (turnL s0.data.toList i j) != sumZ s0.data.toList) = true := by simpa using H2
    have hT := fun (W : World) => turned_any s0 a1 a2 W i j (by omega) (by omega) (by omega) hi hj ha1 ha1' ha2 ha2'
    have HT := Lib.hid hT
    have l1 := turnL_len s0.data.toList i j
    rw [data_len] at l1
    have L1 : (⟨(turnL s0.data.toList i j).toArray⟩ : ByteArray).size ≤ 281474976710656 := by
      show (turnL s0.data.toList i j).toArray.size ≤ _
      rw [List.size_toArray]; omega
    clear hT hi hi2 hj hj2 H2 h l1
    go_enter Try.func8, Try.ntmps8
    go_wp2_with (first
      | (go_at_call 19; go_must (refine (Sum_is _ _ (by first | omega | exact L1 | (show Array.size (ByteArray.data _) ≤ _; simp <;> omega))).mono ?_; rintro e w1 ⟨rfl, hb1⟩))
      | (go_at_call 20; go_must (refine (HT.out _).mono ?_; rintro e w1 ⟨rfl, hb1⟩)))
    go_ret
    refine ⟨rfl, ?_⟩
    repeat' (first | exact Below.refl _ _ | with_reducible assumption | refine Below.drew ?_ | refine below_dn ?_ _ | refine below_ca ?_ _ | refine Below.setCell ?_ ?_ _ | (refine below_c ?_ (by with_reducible assumption)) | (simp <;> omega) | omega)
end Go.Proofs.Ytlehknaiddidaaa
