/- The walk of SeqRound: it returns true. -/
import Derived.Test.YtlehknaiddidaaaSeqC
import Derived.Below
namespace Go.Proofs.Ytlehknaiddidaaa
open Go.RowKit

theorem dZ_shift (a b n : Int) : dZ ((a + n) % 4294967296) ((b + n) % 4294967296) = dZ a b := by unfold dZ; omega
theorem dZ_back (a b : Int) (h : 0 ≤ a) (h' : a ≤ 4294967295) : (b + dZ a b % 4294967296) % 4294967296 = a := by unfold dZ; omega
theorem dZ_neg (a b : Int) (h : dZ a b ≠ -2147483648) : dZ b a = -dZ a b := by unfold dZ at *; omega
theorem inB_shift (a b n m : Int) : inB ((a + n) % 4294967296) ((b + n) % 4294967296) m = inB a b m := by
  have : ((a + n) % 4294967296 - (b + n) % 4294967296) % 4294967296 = (a - b) % 4294967296 := by omega
  unfold inB; rw [this]
theorem inB_one (a : Int) : inB a a 1 = true := by simp [inB]
theorem inB_zero (a : Int) : inB a a 0 = false := by simp [inB]

set_option maxHeartbeats 400000 in
theorem w_SeqRound (a0 : Int) (a1 : Int) (a2 : Int) (a3 : Int) (w : World) (ha0 : 0 ≤ a0) (ha0' : a0 ≤ 4294967295) (ha1 : 0 ≤ a1) (ha1' : a1 ≤ 4294967295) (_ha2 : 0 ≤ a2) (_ha2' : a2 ≤ 4294967295) (_ha3 : -9223372036854775808 ≤ a3) (_ha3' : a3 ≤ 9223372036854775807) :
    Calls Try.prog 3 #[.int .u32 a0, .int .u32 a1, .int .u32 a2, .int .i64 a3] w fun e w' => e = .returned (.bool true) ∧ Below w.heap.size w w' := by
  have h1 := dZ_lo a0 a1
  have h2 := dZ_hi a0 a1
  have H1 := dZ_shift a0 a1 a2
  have H2 := dZ_back a0 a1 ha0 ha0'
  have H3 := inB_shift a0 a1 a2 a3
  have H4 := inB_one a0
  have H5 := inB_zero a0
  by_cases h : dZ a0 a1 = -2147483648
  · have hb : (dZ a0 a1 != -2147483648) = false := by simp [h]
    have hl : decide (dZ a0 a1 < 0) = true := by simp [h]
    clear h
    go_enter Try.func3, Try.ntmps3
    go_wp2_with (first
      | (go_at_call 13; refine (Diff_any _ _ _ (by omega) (by omega) (by omega) (by omega)).mono ?_; rintro e w' ⟨rfl, rfl⟩)
      | (go_at_call 14; refine (Less_any _ _ _ (by omega) (by omega) (by omega) (by omega)).mono ?_; rintro e w' ⟨rfl, rfl⟩)
      | (go_at_call 15; refine (In_any _ _ _ _ (by omega) (by omega) (by omega) (by omega) (by omega) (by omega)).mono ?_; rintro e w' ⟨rfl, rfl⟩))
    go_ret
    exact ⟨rfl, Below.refl _ _⟩
  · have hb : (dZ a0 a1 != -2147483648) = true := by simp [h]
    have H6 := dZ_neg a0 a1 h
    clear h
    go_enter Try.func3, Try.ntmps3
    go_wp2_with (first
      | (go_at_call 13; refine (Diff_any _ _ _ (by omega) (by omega) (by omega) (by omega)).mono ?_; rintro e w' ⟨rfl, rfl⟩)
      | (go_at_call 14; refine (Less_any _ _ _ (by omega) (by omega) (by omega) (by omega)).mono ?_; rintro e w' ⟨rfl, rfl⟩)
      | (go_at_call 15; refine (In_any _ _ _ _ (by omega) (by omega) (by omega) (by omega) (by omega) (by omega)).mono ?_; rintro e w' ⟨rfl, rfl⟩))
    go_ret
    exact ⟨rfl, Below.refl _ _⟩
end Go.Proofs.Ytlehknaiddidaaa
