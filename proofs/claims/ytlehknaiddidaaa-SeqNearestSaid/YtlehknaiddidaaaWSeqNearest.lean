/- The walk of SeqNearest: it returns true. -/
import Derived.Test.YtlehknaiddidaaaSeqC
import Derived.Below
namespace Go.Proofs.Ytlehknaiddidaaa
open Go.RowKit

theorem near_7 : nearZ 7 7 = 7 := by unfold nearZ dZ; omega
theorem near_found (p d : Int) (h : 0 < d % 4294967296) : nearZ (p % 4294967296) (p % 1125899906842624 + (d % 4294967296 - 2147483648)) = p % 1125899906842624 := by unfold nearZ dZ; omega
theorem near_edge (p d : Int) (h : d % 4294967296 ≤ 0) : nearZ (p % 4294967296) (p % 1125899906842624 + (d % 4294967296 - 2147483648)) = p % 1125899906842624 - 4294967296 := by unfold nearZ dZ; omega

set_option maxHeartbeats 400000 in
theorem w_SeqNearest (a0 : Int) (a1 : Int) (w : World) (_ha0 : -9223372036854775808 ≤ a0) (_ha0' : a0 ≤ 9223372036854775807) (_ha1 : -9223372036854775808 ≤ a1) (_ha1' : a1 ≤ 9223372036854775807) :
    Calls Try.prog 5 #[.int .i64 a0, .int .i64 a1] w fun e w' => e = .returned (.bool true) ∧ Below w.heap.size w w' := by
  have H7 := near_7
  by_cases h : a0 % 1125899906842624 + (a1 % 4294967296 - 2147483648) < 0
  · go_enter Try.func5, Try.ntmps5
    go_wp2_with (first
      | (go_at_call 16; refine (Rest_any _ _ _ (by omega) (by omega) (by omega) (by omega)).mono ?_; rintro e w' ⟨rfl, rfl⟩)
      | (go_at_call 17; refine (Near_any _ _ _ (by omega) (by omega) (by omega) (by omega)).mono ?_; rintro e w' ⟨rfl, rfl⟩))
    go_ret
    exact ⟨rfl, Below.refl _ _⟩
  · by_cases h2 : a1 % 4294967296 ≤ 0
    · have H := near_edge a0 a1 h2
      have h4 : (a1 % 4294967296 - 2147483648 == -2147483648) = true := by simp; omega
      go_enter Try.func5, Try.ntmps5
      go_wp2_with (first
        | (go_at_call 16; refine (Rest_any _ _ _ (by omega) (by omega) (by omega) (by omega)).mono ?_; rintro e w' ⟨rfl, rfl⟩)
        | (go_at_call 17; refine (Near_any _ _ _ (by omega) (by omega) (by omega) (by omega)).mono ?_; rintro e w' ⟨rfl, rfl⟩))
      go_ret
      exact ⟨rfl, Below.refl _ _⟩
    · have H := near_found a0 a1 (by omega)
      go_enter Try.func5, Try.ntmps5
      go_wp2_with (first
        | (go_at_call 16; refine (Rest_any _ _ _ (by omega) (by omega) (by omega) (by omega)).mono ?_; rintro e w' ⟨rfl, rfl⟩)
        | (go_at_call 17; refine (Near_any _ _ _ (by omega) (by omega) (by omega) (by omega)).mono ?_; rintro e w' ⟨rfl, rfl⟩))
      go_ret
      exact ⟨rfl, Below.refl _ _⟩
end Go.Proofs.Ytlehknaiddidaaa
