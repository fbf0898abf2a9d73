/- The contract of Step's Of. -/
import Derived.Test.YtppjmhkecogbcaaRest
import Derived.Test.YtppjmhkecogbcaaStr
namespace Go.Proofs.Ytppjmhkecogbcaa
open Go.RowKit
set_option linter.unusedVariables false

set_option maxHeartbeats 400000 in
theorem Of_any (cs : List Value) (k n : Int) (w : World) (h0 : cs[0]? = some (.int .i64 k)) (hk : -9223372036854775808 ≤ k) (hk' : k ≤ 9223372036854775807) (hn : 0 < n) (hn' : n ≤ 9223372036854775807) :
    Calls Try.prog 16 #[.agg cs.toArray, .int .i64 n] w fun e w' => e = .returned (.int .i64 (k % n)) ∧ Below w.heap.size w w' := by
  go_enter Try.func16, Try.ntmps16
  go_wp2_with (first
    | (go_at_call 28; go_must (refine (Rest_any _ _ _ (by omega) (by omega) (by omega) (by omega)).mono ?_; rintro e w1 ⟨rfl, rfl⟩)))
  go_ret
  exact ⟨rfl, below_ca (Below.refl _ _) _⟩

theorem step_info : (Try.prog.info? 56).map (·.size) = some 45 := by kernel_rfl
theorem step_len {cs : List Value} (h : okAll ksStep cs) : cs.length = 45 := okAll_len h
theorem step_int {cs : List Value} (h : okAll ksStep cs) (i : Nat) (hi : ksStep[i]? = some (.int .i64)) : ∃ n, cs[i]? = some (.int .i64 n) ∧ -9223372036854775808 ≤ n ∧ n ≤ 9223372036854775807 := by
  obtain ⟨v, hv, n, rfl, h1, h2⟩ := okAll_at i h hi
  exact ⟨n, hv, h1, h2⟩
theorem step_str {cs : List Value} (h : okAll ksStep cs) (i : Nat) (hi : ksStep[i]? = some .str) : ∃ s : ByteArray, cs[i]? = some (.string s) ∧ s.size ≤ 140737488351232 := by
  obtain ⟨v, hv, s, rfl, h1⟩ := okAll_at i h hi
  exact ⟨s, hv, h1⟩
theorem step_bool {cs : List Value} (h : okAll ksStep cs) (i : Nat) (hi : ksStep[i]? = some .bool) : ∃ b : Bool, cs[i]? = some (.bool b) := by
  obtain ⟨v, hv, b, rfl⟩ := okAll_at i h hi
  exact ⟨b, hv⟩
end Go.Proofs.Ytppjmhkecogbcaa
