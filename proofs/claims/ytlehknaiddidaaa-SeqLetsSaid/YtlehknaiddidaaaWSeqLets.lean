/- The walk of SeqLets: it returns true. -/
import Derived.Test.YtlehknaiddidaaaSeqC
import Derived.Below
namespace Go.Proofs.Ytlehknaiddidaaa
open Go.RowKit

theorem acc_zero (n : Int) : accB n 0 n 0 = true := by simp [accB]
theorem acc_yes (n x l m : Int) (_hn : 0 ≤ n) (_hn' : n ≤ 4294967295) (h0 : 0 ≤ x) (hl0 : 0 ≤ l) (h1 : x + l ≤ m) (h2 : 0 < l ∨ x < m) (hm : m ≤ 2049) : accB ((n + x) % 4294967296) l n m = true := by
  have e : ((n + x) % 4294967296 - n) % 4294967296 = x := by omega
  unfold accB inB
  rw [e]
  by_cases hl : l < 1
  · have hl' : l = 0 := by omega
    rw [if_pos hl, if_neg (by omega)]; simp; omega
  · rw [if_neg hl, if_neg (by omega)]; simp; omega
theorem acc_no (n x l m : Int) (_hn : 0 ≤ n) (_hn' : n ≤ 4294967295) (h0 : -2500 ≤ x) (h0' : x ≤ 2500) (hl0 : 0 < l) (hl1 : l ≤ 1000) (h1 : x + l ≤ 0 ∨ m ≤ x) (_hm0 : 0 ≤ m) (hm : m ≤ 2049) : accB ((n + x) % 4294967296) l n m = false := by
  unfold accB inB
  rw [if_neg (by omega)]
  by_cases hm1 : m < 1
  · rw [if_pos hm1]
  · rw [if_neg hm1]; simp; omega

set_option maxHeartbeats 400000 in
theorem w_SeqLets (a0 : Int) (a1 : Int) (a2 : Int) (a3 : Int) (w : World) (ha0 : 0 ≤ a0) (ha0' : a0 ≤ 4294967295) (_ha1 : -9223372036854775808 ≤ a1) (_ha1' : a1 ≤ 9223372036854775807) (_ha2 : -9223372036854775808 ≤ a2) (_ha2' : a2 ≤ 9223372036854775807) (_ha3 : -9223372036854775808 ≤ a3) (_ha3' : a3 ≤ 9223372036854775807) :
    Calls Try.prog 6 #[.int .u32 a0, .int .i64 a1, .int .i64 a2, .int .i64 a3] w fun e w' => e = .returned (.bool true) ∧ Below w.heap.size w w' := by
  have hz := acc_zero a0
  have e0 : (a0 + (a1 % 5000 - 2500) % 4294967296) % 4294967296 = (a0 + (a1 % 5000 - 2500)) % 4294967296 := by omega
  by_cases h1 : 0 ≤ a1 % 5000 - 2500 ∧ a1 % 5000 - 2500 + a2 % 1000 ≤ a3 % 2049
  · obtain ⟨h1, h2⟩ := h1
    by_cases h3 : 0 < a2 % 1000
    · have H := acc_yes a0 (a1 % 5000 - 2500) (a2 % 1000) (a3 % 2049) ha0 ha0' h1 (by omega) h2 (by omega) (by omega)
      go_enter Try.func6, Try.ntmps6
      go_wp2_with (first
        | (go_at_call 16; refine (Rest_any _ _ _ (by omega) (by omega) (by omega) (by omega)).mono ?_; rintro e w' ⟨rfl, rfl⟩)
        | (go_at_call 18; refine (Accept_any _ _ _ _ _ (by omega) (by omega) (by omega) (by omega) (by omega) (by omega) (by omega) (by omega)).mono ?_; rintro e w' ⟨rfl, rfl⟩))
      go_ret
      exact ⟨rfl, Below.refl _ _⟩
    · by_cases h4 : a1 % 5000 - 2500 < a3 % 2049
      · have H := acc_yes a0 (a1 % 5000 - 2500) (a2 % 1000) (a3 % 2049) ha0 ha0' h1 (by omega) h2 (by omega) (by omega)
        go_enter Try.func6, Try.ntmps6
        go_wp2_with (first
          | (go_at_call 16; refine (Rest_any _ _ _ (by omega) (by omega) (by omega) (by omega)).mono ?_; rintro e w' ⟨rfl, rfl⟩)
          | (go_at_call 18; refine (Accept_any _ _ _ _ _ (by omega) (by omega) (by omega) (by omega) (by omega) (by omega) (by omega) (by omega)).mono ?_; rintro e w' ⟨rfl, rfl⟩))
        go_ret
        exact ⟨rfl, Below.refl _ _⟩
      · go_enter Try.func6, Try.ntmps6
        go_wp2_with (first
          | (go_at_call 16; refine (Rest_any _ _ _ (by omega) (by omega) (by omega) (by omega)).mono ?_; rintro e w' ⟨rfl, rfl⟩)
          | (go_at_call 18; refine (Accept_any _ _ _ _ _ (by omega) (by omega) (by omega) (by omega) (by omega) (by omega) (by omega) (by omega)).mono ?_; rintro e w' ⟨rfl, rfl⟩))
        go_ret
        exact ⟨rfl, Below.refl _ _⟩
  · by_cases h3 : 0 < a2 % 1000
    · by_cases h5 : a1 % 5000 - 2500 + a2 % 1000 ≤ 0
      · have H := acc_no a0 (a1 % 5000 - 2500) (a2 % 1000) (a3 % 2049) ha0 ha0' (by omega) (by omega) h3 (by omega) (by omega) (by omega) (by omega)
        have h6 : a1 % 5000 - 2500 < 0 := by omega
        clear h1
        go_enter Try.func6, Try.ntmps6
        go_wp2_with (first
          | (go_at_call 16; refine (Rest_any _ _ _ (by omega) (by omega) (by omega) (by omega)).mono ?_; rintro e w' ⟨rfl, rfl⟩)
          | (go_at_call 18; refine (Accept_any _ _ _ _ _ (by omega) (by omega) (by omega) (by omega) (by omega) (by omega) (by omega) (by omega)).mono ?_; rintro e w' ⟨rfl, rfl⟩))
        go_ret
        exact ⟨rfl, Below.refl _ _⟩
      · by_cases h7 : a3 % 2049 ≤ a1 % 5000 - 2500
        · have H := acc_no a0 (a1 % 5000 - 2500) (a2 % 1000) (a3 % 2049) ha0 ha0' (by omega) (by omega) h3 (by omega) (by omega) (by omega) (by omega)
          have h6 : 0 ≤ a1 % 5000 - 2500 := by omega
          clear h1
          go_enter Try.func6, Try.ntmps6
          go_wp2_with (first
            | (go_at_call 16; refine (Rest_any _ _ _ (by omega) (by omega) (by omega) (by omega)).mono ?_; rintro e w' ⟨rfl, rfl⟩)
            | (go_at_call 18; refine (Accept_any _ _ _ _ _ (by omega) (by omega) (by omega) (by omega) (by omega) (by omega) (by omega) (by omega)).mono ?_; rintro e w' ⟨rfl, rfl⟩))
          go_ret
          exact ⟨rfl, Below.refl _ _⟩
        · by_cases h6 : 0 ≤ a1 % 5000 - 2500
          · have h8 : ¬ a1 % 5000 - 2500 + a2 % 1000 ≤ a3 % 2049 := by omega
            clear h1
            go_enter Try.func6, Try.ntmps6
            go_wp2_with (first
              | (go_at_call 16; refine (Rest_any _ _ _ (by omega) (by omega) (by omega) (by omega)).mono ?_; rintro e w' ⟨rfl, rfl⟩)
              | (go_at_call 18; refine (Accept_any _ _ _ _ _ (by omega) (by omega) (by omega) (by omega) (by omega) (by omega) (by omega) (by omega)).mono ?_; rintro e w' ⟨rfl, rfl⟩))
            go_ret
            exact ⟨rfl, Below.refl _ _⟩
          · clear h1
            go_enter Try.func6, Try.ntmps6
            go_wp2_with (first
              | (go_at_call 16; refine (Rest_any _ _ _ (by omega) (by omega) (by omega) (by omega)).mono ?_; rintro e w' ⟨rfl, rfl⟩)
              | (go_at_call 18; refine (Accept_any _ _ _ _ _ (by omega) (by omega) (by omega) (by omega) (by omega) (by omega) (by omega) (by omega)).mono ?_; rintro e w' ⟨rfl, rfl⟩))
            go_ret
            exact ⟨rfl, Below.refl _ _⟩
    · by_cases h6 : 0 ≤ a1 % 5000 - 2500
      · have h8 : ¬ a1 % 5000 - 2500 + a2 % 1000 ≤ a3 % 2049 := by omega
        clear h1
        go_enter Try.func6, Try.ntmps6
        go_wp2_with (first
          | (go_at_call 16; refine (Rest_any _ _ _ (by omega) (by omega) (by omega) (by omega)).mono ?_; rintro e w' ⟨rfl, rfl⟩)
          | (go_at_call 18; refine (Accept_any _ _ _ _ _ (by omega) (by omega) (by omega) (by omega) (by omega) (by omega) (by omega) (by omega)).mono ?_; rintro e w' ⟨rfl, rfl⟩))
        go_ret
        exact ⟨rfl, Below.refl _ _⟩
      · clear h1
        go_enter Try.func6, Try.ntmps6
        go_wp2_with (first
          | (go_at_call 16; refine (Rest_any _ _ _ (by omega) (by omega) (by omega) (by omega)).mono ?_; rintro e w' ⟨rfl, rfl⟩)
          | (go_at_call 18; refine (Accept_any _ _ _ _ _ (by omega) (by omega) (by omega) (by omega) (by omega) (by omega) (by omega) (by omega)).mono ?_; rintro e w' ⟨rfl, rfl⟩))
        go_ret
        exact ⟨rfl, Below.refl _ _⟩
end Go.Proofs.Ytlehknaiddidaaa
