/- The walk of SeqMeets: it returns true. -/
import Derived.Test.YtlehknaiddidaaaSeqC
import Derived.Below
namespace Go.Proofs.Ytlehknaiddidaaa
open Go.RowKit
set_option linter.unusedVariables false

def meetB (x m k : Int) : Bool := decide (0 < k ∧ 0 < m ∧ x < m ∧ 0 < x + k)
theorem meet_zero (x m : Int) : meetB x m 0 = false := by simp [meetB]
theorem meet_t (x m : Int) (k : Nat) (h : meetB x m k = true) : meetB x m (k + 1) = true := by simp only [meetB, decide_eq_true_eq] at *; omega
theorem meet_y (x m : Int) (k : Nat) (h1 : 0 ≤ x + k) (h2 : x + k < m) : meetB x m (k + 1) = true := by simp only [meetB, decide_eq_true_eq] at *; omega
theorem meet_n1 (x m : Int) (k : Nat) (h : meetB x m k = false) (h1 : x + k < 0) : meetB x m (k + 1) = false := by simp only [meetB, decide_eq_false_iff_not] at *; omega
theorem meet_n2 (x m : Int) (k : Nat) (h : meetB x m k = false) (_h1 : 0 ≤ x + k) (h2 : m ≤ x + k) : meetB x m (k + 1) = false := by simp only [meetB, decide_eq_false_iff_not] at *; omega
theorem acc_zero' (n : Int) : accB n 0 n 0 = true := by simp [accB]
theorem acc_meets (n x l m : Int) (_hn : 0 ≤ n) (_hn' : n ≤ 4294967295) (h0 : -100 ≤ x) (h0' : x ≤ 100) (hl0 : 0 < l) (hl1 : l ≤ 100) (h1 : 0 ≤ x ∨ x + l ≤ m) (_hm0 : 0 ≤ m) (hm : m ≤ 100) : accB ((n + x) % 4294967296) l n m = meetB x m l := by
  rw [Bool.eq_iff_iff]
  unfold accB inB meetB
  rw [if_neg (by omega)]
  by_cases hm1 : m < 1
  · rw [if_pos hm1]; simp; omega
  · rw [if_neg hm1]; simp; omega

set_option maxHeartbeats 400000 in
theorem w_SeqMeets (a0 : Int) (a1 : Int) (a2 : Int) (a3 : Int) (w : World) (ha0 : 0 ≤ a0) (ha0' : a0 ≤ 4294967295) (_ha1 : -9223372036854775808 ≤ a1) (_ha1' : a1 ≤ 9223372036854775807) (_ha2 : -9223372036854775808 ≤ a2) (_ha2' : a2 ≤ 9223372036854775807) (_ha3 : -9223372036854775808 ≤ a3) (_ha3' : a3 ≤ 9223372036854775807) :
    Calls Try.prog 7 #[.int .u32 a0, .int .i64 a1, .int .i64 a2, .int .i64 a3] w fun e w' => e = .returned (.bool true) ∧ Below w.heap.size w w' := by
  have hz := acc_zero' a0
  have e0 : (a0 + (a1 % 200 - 100) % 4294967296) % 4294967296 = (a0 + (a1 % 200 - 100)) % 4294967296 := by omega
  go_enter Try.func7, Try.ntmps7
  go_wp2_with (first
    | (go_at_call 16; refine (Rest_any _ _ _ (by omega) (by omega) (by omega) (by omega)).mono ?_; rintro e w' ⟨rfl, rfl⟩)
    | (go_at_call 18; refine (Accept_any _ _ _ _ _ (by omega) (by omega) (by omega) (by omega) (by omega) (by omega) (by omega) (by omega)).mono ?_; rintro e w' ⟨rfl, rfl⟩))
  go_loop [9, 22] (fun m i => ∃ k : Nat, (k : Int) ≤ 1 + a2 % 100 ∧ i = .int .i64 k ∧ m = .bool (meetB (a1 % 200 - 100) (a3 % 100) k)) (fun _ i => (1 + a2 % 100 - intOf i).toNat)
  case atStart => exact ⟨0, by omega, rfl, by rw [show ((0 : Nat) : Int) = 0 from rfl, meet_zero]⟩
  case round =>
    obtain ⟨k, hk, rfl, rfl⟩ := hrel
    by_cases hlt : (k : Int) < 1 + a2 % 100
    · by_cases h1 : meetB (a1 % 200 - 100) (a3 % 100) k = true
      · have h2 := Lib.hid (meet_t _ _ _ h1)
        go_wp2
        go_round
        case rel => exact ⟨k + 1, by omega, by go_num, by rw [show ((k + 1 : Nat) : Int) = (k : Int) + 1 by omega, h2.out]⟩
        case measure => simp [intOf]; omega
      · have h1 : meetB (a1 % 200 - 100) (a3 % 100) k = false := by simpa using h1
        by_cases h3 : 0 ≤ a1 % 200 - 100 + (k : Int)
        · by_cases h4 : a1 % 200 - 100 + (k : Int) < a3 % 100
          · have h2 := Lib.hid (meet_y _ _ _ h3 h4)
            go_wp2
            go_round
            case rel => exact ⟨k + 1, by omega, by go_num, by rw [show ((k + 1 : Nat) : Int) = (k : Int) + 1 by omega, h2.out]⟩
            case measure => simp [intOf]; omega
          · have h2 := Lib.hid (meet_n2 _ _ _ h1 h3 (by omega))
            go_wp2
            go_round
            case rel => exact ⟨k + 1, by omega, by go_num, by rw [show ((k + 1 : Nat) : Int) = (k : Int) + 1 by omega, h2.out]⟩
            case measure => simp [intOf]; omega
        · have h2 := Lib.hid (meet_n1 _ _ _ h1 (by omega))
          go_wp2
          go_round
          case rel => exact ⟨k + 1, by omega, by go_num, by rw [show ((k + 1 : Nat) : Int) = (k : Int) + 1 by omega, h2.out]⟩
          case measure => simp [intOf]; omega
    · have hk2 : (k : Int) = 1 + a2 % 100 := by omega
      by_cases h5 : 0 ≤ a1 % 200 - 100
      · have H := acc_meets a0 (a1 % 200 - 100) (1 + a2 % 100) (a3 % 100) ha0 ha0' (by omega) (by omega) (by omega) (by omega) (by omega) (by omega) (by omega)
        rw [hk2]
        clear hk hlt hk2
        go_wp2_with (go_at_call 18; refine (Accept_any _ _ _ _ _ (by omega) (by omega) (by omega) (by omega) (by omega) (by omega) (by omega) (by omega)).mono ?_; rintro e w' ⟨rfl, rfl⟩)
        go_ret
        exact ⟨rfl, Below.refl _ _⟩
      · by_cases h6 : a1 % 200 - 100 + (1 + a2 % 100) ≤ a3 % 100
        · have H := acc_meets a0 (a1 % 200 - 100) (1 + a2 % 100) (a3 % 100) ha0 ha0' (by omega) (by omega) (by omega) (by omega) (by omega) (by omega) (by omega)
          rw [hk2]
          clear hk hlt hk2
          go_wp2_with (go_at_call 18; refine (Accept_any _ _ _ _ _ (by omega) (by omega) (by omega) (by omega) (by omega) (by omega) (by omega) (by omega)).mono ?_; rintro e w' ⟨rfl, rfl⟩)
          go_ret
          exact ⟨rfl, Below.refl _ _⟩
        · rw [hk2]
          clear hk hlt hk2
          go_wp2_with (go_at_call 18; refine (Accept_any _ _ _ _ _ (by omega) (by omega) (by omega) (by omega) (by omega) (by omega) (by omega) (by omega)).mono ?_; rintro e w' ⟨rfl, rfl⟩)
          go_ret
          exact ⟨rfl, Below.refl _ _⟩
end Go.Proofs.Ytlehknaiddidaaa
