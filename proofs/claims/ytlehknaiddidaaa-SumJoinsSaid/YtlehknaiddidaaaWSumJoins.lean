/- The walk of SumJoins: it returns true. -/
import Derived.Test.YtlehknaiddidaaaSumP
namespace Go.Proofs.Ytlehknaiddidaaa
open Go.RowKit
set_option linter.unusedVariables false

set_option maxHeartbeats 400000 in
theorem w_SumJoins (s0 : ByteArray) (s1 : ByteArray) (w : World) (hs0 : s0.size ≤ 140737488351232) (hs1 : s1.size ≤ 140737488351232) :
    Calls Try.prog 10 #[.string s0, .string s1] w fun e w' => e = .returned (.bool true) ∧ Below w.heap.size w w' := by
  have a1 := sumZ_lo s0.data.toList
  have a2 := sumZ_hi s0.data.toList
  have a3 := sumZ_lo s1.data.toList
  have a4 := sumZ_hi s1.data.toList
  have b3 := (swap_bd _ a3 a4).1
  have b4 := (swap_bd _ a3 a4).2
  have he := sum_empty
  have hl := data_len s0
  by_cases h : s0.size % 2 = 1
  · have hodd : ((s0.size : Int) % 2 == 1) = true := by simp; omega
    have H := joins_odd s0.data.toList s1.data.toList (by omega)
    have H2 := sum_full (s0.data.toList ++ [0]) (by simp; omega)
    have H3 := sumZ_lo (s0.data.toList ++ [0])
    have H4 := sumZ_hi (s0.data.toList ++ [0])
    rw [List.append_assoc, List.singleton_append] at H2
    clear h hl
    go_enter Try.func10, Try.ntmps10
    go_wp2_with (first
      | (go_at_call 19; go_must (refine (Sum_is _ _ (by first | omega | (show Array.size (ByteArray.data _) ≤ _; simp <;> omega))).mono ?_; rintro e w1 ⟨rfl, hb1⟩))
      | (go_at_call 24; go_must (refine (Join_odd _ _ _ (by omega) (by omega) (by omega) (by omega)).mono ?_; rintro e w1 ⟨rfl, rfl⟩))
      | (go_at_call 21; go_must (refine (Check16_any _ _ (by first | omega | (show Array.size (ByteArray.data _) ≤ _; simp <;> omega))).mono ?_; rintro e w1 ⟨rfl, hb1⟩))
      | (go_at_call 23; go_must (refine (two_any _ _ (by omega) (by omega)).mono ?_; rintro e w1 ⟨rfl, hb1⟩)))
    go_ret
    refine ⟨rfl, ?_⟩
    repeat' (first | exact Below.refl _ _ | with_reducible assumption | refine Below.drew ?_ | refine below_dn ?_ _ | refine below_ca ?_ _ | refine Below.setCell ?_ ?_ _ | (refine below_c ?_ (by with_reducible assumption)) | (simp <;> omega) | omega)
  · have hodd : ((s0.size : Int) % 2 == 1) = false := by simp; omega
    have H := joins_even s0.data.toList s1.data.toList (by omega)
    have H2 := sum_full s0.data.toList (by omega)
    clear h hl
    go_enter Try.func10, Try.ntmps10
    go_wp2_with (first
      | (go_at_call 19; go_must (refine (Sum_is _ _ (by first | omega | (show Array.size (ByteArray.data _) ≤ _; simp <;> omega))).mono ?_; rintro e w1 ⟨rfl, hb1⟩))
      | (go_at_call 24; go_must (refine (Join_even _ _ _ (by omega) (by omega) (by omega) (by omega)).mono ?_; rintro e w1 ⟨rfl, rfl⟩))
      | (go_at_call 21; go_must (refine (Check16_any _ _ (by first | omega | (show Array.size (ByteArray.data _) ≤ _; simp <;> omega))).mono ?_; rintro e w1 ⟨rfl, hb1⟩))
      | (go_at_call 23; go_must (refine (two_any _ _ (by omega) (by omega)).mono ?_; rintro e w1 ⟨rfl, hb1⟩)))
    go_ret
    refine ⟨rfl, ?_⟩
    repeat' (first | exact Below.refl _ _ | with_reducible assumption | refine Below.drew ?_ | refine below_dn ?_ _ | refine below_ca ?_ _ | refine Below.setCell ?_ ?_ _ | (refine below_c ?_ (by with_reducible assumption)) | (simp <;> omega) | omega)
end Go.Proofs.Ytlehknaiddidaaa
