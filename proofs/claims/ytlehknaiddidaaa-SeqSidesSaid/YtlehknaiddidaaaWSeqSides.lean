/- The walk of SeqSides: it returns true. -/
import Derived.Test.YtlehknaiddidaaaSeqC
import Derived.Below
namespace Go.Proofs.Ytlehknaiddidaaa
open Go.RowKit

theorem inB_from (a k m : Int) (h : 0 ≤ k) (h' : k < 4294967296) : inB ((a + k) % 4294967296) a m = decide (k < m) := by
  have : ((a + k) % 4294967296 - a) % 4294967296 = k := by omega
  unfold inB; rw [this]; congr 1; apply propext; omega
theorem inB_seven : inB 7 7 1 = true := by simp [inB]
theorem dZ_self (a : Int) : dZ a a = 0 := by unfold dZ; omega
theorem dZ_half (a b : Int) (h : (a - b) % 4294967296 = 2147483648) : dZ a b < 0 ∧ dZ b a < 0 := by unfold dZ; omega
theorem dZ_two (a b : Int) (h : (a - b) % 4294967296 ≠ 2147483648) (h0 : (a - b) % 4294967296 ≠ 0) : (dZ a b < 0 ∧ 0 ≤ dZ b a) ∨ (0 ≤ dZ a b ∧ dZ b a < 0) := by unfold dZ; omega

set_option maxHeartbeats 400000 in
theorem w_SeqSides (a0 : Int) (a1 : Int) (a2 : Int) (a3 : Int) (w : World) (ha0 : 0 ≤ a0) (ha0' : a0 ≤ 4294967295) (ha1 : 0 ≤ a1) (ha1' : a1 ≤ 4294967295) (_ha2 : -9223372036854775808 ≤ a2) (_ha2' : a2 ≤ 9223372036854775807) (_ha3 : -9223372036854775808 ≤ a3) (_ha3' : a3 ≤ 9223372036854775807) :
    Calls Try.prog 4 #[.int .u32 a0, .int .u32 a1, .int .i64 a2, .int .i64 a3] w fun e w' => e = .returned (.bool true) ∧ Below w.heap.size w w' := by
  have H1 := inB_from a0 (a2 % 4294967296) (a3 % 4294967296) (by omega) (by omega)
  have H1' : (a0 + a2 % 4294967296) % 4294967296 = (a0 + a2) % 4294967296 := by omega
  rw [H1'] at H1
  clear H1'
  have H2 := inB_seven
  by_cases h : a0 = a1
  · subst h
    have H3 := dZ_self a0
    go_enter Try.func4, Try.ntmps4
    go_wp2_with (first
      | (go_at_call 16; refine (Rest_any _ _ _ (by omega) (by omega) (by omega) (by omega)).mono ?_; rintro e w' ⟨rfl, rfl⟩)
      | (go_at_call 15; refine (In_any _ _ _ _ (by omega) (by omega) (by omega) (by omega) (by omega) (by omega)).mono ?_; rintro e w' ⟨rfl, rfl⟩)
      | (go_at_call 14; refine (Less_any _ _ _ (by omega) (by omega) (by omega) (by omega)).mono ?_; rintro e w' ⟨rfl, rfl⟩))
    go_ret
    exact ⟨rfl, Below.refl _ _⟩
  · have h1 : (a0 == a1) = false := by simpa using h
    by_cases h2 : (a0 - a1) % 4294967296 = 2147483648
    · obtain ⟨h3, h4⟩ := dZ_half a0 a1 h2
      have h5 : ((a0 - a1) % 4294967296 == 2147483648) = true := by simpa using h2
      clear h2
      go_enter Try.func4, Try.ntmps4
      go_wp2_with (first
        | (go_at_call 16; refine (Rest_any _ _ _ (by omega) (by omega) (by omega) (by omega)).mono ?_; rintro e w' ⟨rfl, rfl⟩)
        | (go_at_call 15; refine (In_any _ _ _ _ (by omega) (by omega) (by omega) (by omega) (by omega) (by omega)).mono ?_; rintro e w' ⟨rfl, rfl⟩)
        | (go_at_call 14; refine (Less_any _ _ _ (by omega) (by omega) (by omega) (by omega)).mono ?_; rintro e w' ⟨rfl, rfl⟩))
      go_ret
      exact ⟨rfl, Below.refl _ _⟩
    · have h5 : ((a0 - a1) % 4294967296 == 2147483648) = false := by simpa using h2
      have h6 := dZ_two a0 a1 h2 (by omega)
      clear h2 h
      rcases h6 with ⟨h6, h7⟩ | ⟨h6, h7⟩
      · have h8 : decide (dZ a1 a0 < 0) = false := by simp; omega
        have h9 : decide (dZ a0 a1 < 0) = true := by simp; omega
        go_enter Try.func4, Try.ntmps4
        go_wp2_with (first
          | (go_at_call 16; refine (Rest_any _ _ _ (by omega) (by omega) (by omega) (by omega)).mono ?_; rintro e w' ⟨rfl, rfl⟩)
          | (go_at_call 15; refine (In_any _ _ _ _ (by omega) (by omega) (by omega) (by omega) (by omega) (by omega)).mono ?_; rintro e w' ⟨rfl, rfl⟩)
          | (go_at_call 14; refine (Less_any _ _ _ (by omega) (by omega) (by omega) (by omega)).mono ?_; rintro e w' ⟨rfl, rfl⟩))
        go_ret
        exact ⟨rfl, Below.refl _ _⟩
      · have h8 : decide (dZ a1 a0 < 0) = true := by simp; omega
        have h9 : decide (dZ a0 a1 < 0) = false := by simp; omega
        go_enter Try.func4, Try.ntmps4
        go_wp2_with (first
          | (go_at_call 16; refine (Rest_any _ _ _ (by omega) (by omega) (by omega) (by omega)).mono ?_; rintro e w' ⟨rfl, rfl⟩)
          | (go_at_call 15; refine (In_any _ _ _ _ (by omega) (by omega) (by omega) (by omega) (by omega) (by omega)).mono ?_; rintro e w' ⟨rfl, rfl⟩)
          | (go_at_call 14; refine (Less_any _ _ _ (by omega) (by omega) (by omega) (by omega)).mono ?_; rintro e w' ⟨rfl, rfl⟩))
        go_ret
        exact ⟨rfl, Below.refl _ _⟩
end Go.Proofs.Ytlehknaiddidaaa
