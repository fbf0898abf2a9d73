/- The walk of AddrWithin: it returns true. -/
import Derived.Test.YtlehknaiddidaaaAddrC
namespace Go.Proofs.Ytlehknaiddidaaa
open Go.RowKit
set_option linter.unusedVariables false

theorem chk_40 : chkZ 0 40 = 1 := chk_arg (by omega)
theorem sizeZ_dvd (n m : Int) (h : n ≤ m) : sizeZ m ∣ sizeZ n := by
  unfold sizeZ
  obtain ⟨k, hk⟩ : ∃ k, (32 - n).toNat = (32 - m).toNat + k := ⟨(32 - n).toNat - (32 - m).toNat, by omega⟩
  rw [hk, Int.pow_add]
  exact Int.dvd_mul_right _ _
theorem has_true {p n a : Int} (h : hasB p n a = true) : chkZ p n = 0 ∧ a - a % sizeZ n = p := by simpa [hasB] using h
theorem has_within (p n q m a : Int) (h1 : hasB p n a = true) (h2 : hasB q m a = true) (h : n ≤ m) : hasB p n q = true := by
  obtain ⟨c1, e1⟩ := has_true h1
  obtain ⟨c2, e2⟩ := has_true h2
  obtain ⟨n0, n1, pz⟩ := chk_zero c1
  have s1 := sizeZ_lo n
  have s2 := sizeZ_lo m
  have d := sizeZ_dvd n m h
  have hr : (a % sizeZ n) % sizeZ m = a % sizeZ m := Int.emod_emod_of_dvd a d
  have r0 := Int.emod_nonneg a (show sizeZ n ≠ 0 by omega)
  have r1 := Int.emod_lt_of_pos a (show 0 < sizeZ n by omega)
  have t0 := Int.emod_nonneg a (show sizeZ m ≠ 0 by omega)
  have t1 : (a % sizeZ n) % sizeZ m ≤ a % sizeZ n := by
    have := Int.emod_emod_of_dvd
    have h5 := Int.mul_ediv_add_emod (a % sizeZ n) (sizeZ m)
    have h6 : 0 ≤ sizeZ m * (a % sizeZ n / sizeZ m) := Int.mul_nonneg (by omega) (Int.ediv_nonneg r0 (by omega))
    omega
  have hq : q % sizeZ n = a % sizeZ n - a % sizeZ m := by
    have : q = p + (a % sizeZ n - a % sizeZ m) := by omega
    rw [this, Int.add_emod, pz, Int.zero_add, Int.emod_emod_of_dvd _ (Int.dvd_refl _)]
    exact Int.emod_eq_of_lt (by omega) (by omega)
  simp only [hasB, decide_eq_true_eq]
  exact ⟨c1, by omega⟩

set_option maxHeartbeats 1000000 in
theorem within_1 (a0a : Int) (a0b : Int) (a1a : Int) (a1b : Int) (a2 : Int) (w : World) (ha0a : 0 ≤ a0a) (ha0a' : a0a ≤ 4294967295) (ha0b : -9223372036854775808 ≤ a0b) (ha0b' : a0b ≤ 9223372036854775807) (ha1a : 0 ≤ a1a) (ha1a' : a1a ≤ 4294967295) (ha1b : -9223372036854775808 ≤ a1b) (ha1b' : a1b ≤ 9223372036854775807) (ha2 : 0 ≤ a2) (ha2' : a2 ≤ 4294967295) (h1 : hasB a0a a0b a2 = false) :
    Calls Try.prog 11 #[.agg #[.int .u32 a0a, .int .i64 a0b], .agg #[.int .u32 a1a, .int .i64 a1b], .int .u32 a2] w fun e w' => e = .returned (.bool true) ∧ Below w.heap.size w w' := by
  have H := chk_40
  have f0 : ((w.alloc (.cells #[.int .u32 a0a, .int .i64 a0b] 43)).alloc (.cells #[.int .u32 a1a, .int .i64 a1b] 43)).cell? ⟨w.heap.size, 0, none⟩ = some (.int .u32 a0a) := by simp [go_sem]
  have f1 : ((w.alloc (.cells #[.int .u32 a0a, .int .i64 a0b] 43)).alloc (.cells #[.int .u32 a1a, .int .i64 a1b] 43)).cell? ⟨w.heap.size, 1, none⟩ = some (.int .i64 a0b) := by simp [go_sem]
  have f2 : ((w.alloc (.cells #[.int .u32 a0a, .int .i64 a0b] 43)).alloc (.cells #[.int .u32 a1a, .int .i64 a1b] 43)).cell? ⟨w.heap.size + 1, 0, none⟩ = some (.int .u32 a1a) := by simp [go_sem]
  have f3 : ((w.alloc (.cells #[.int .u32 a0a, .int .i64 a0b] 43)).alloc (.cells #[.int .u32 a1a, .int .i64 a1b] 43)).cell? ⟨w.heap.size + 1, 1, none⟩ = some (.int .i64 a1b) := by simp [go_sem]
  go_enter Try.func11, Try.ntmps11
  go_wp2_with (first
    | (go_at_call 25; go_must (refine (Check_any _ _ _ (by omega) (by omega) (by omega) (by omega)).mono ?_; rintro e w1 ⟨rfl, hb1⟩; have hz0 : w.heap.size ≤ w1.heap.size := (by have := hb1.size; (try simp at this); omega); (try (with_reducible have f0 := keep_cell hb1 f0)); (try (with_reducible have f1 := keep_cell hb1 f1)); (try (with_reducible have f2 := keep_cell hb1 f2)); (try (with_reducible have f3 := keep_cell hb1 f3))))
    | (go_at_call 26; go_must (refine (Has_any _ _ _ _ (by omega) (by omega) (by omega) (by omega) (by omega) (by omega)).mono ?_; rintro e w1 ⟨rfl, hb1⟩; have hz0 : w.heap.size ≤ w1.heap.size := (by have := hb1.size; (try simp at this); omega); (try (with_reducible have f0 := keep_cell hb1 f0)); (try (with_reducible have f1 := keep_cell hb1 f1)); (try (with_reducible have f2 := keep_cell hb1 f2)); (try (with_reducible have f3 := keep_cell hb1 f3)))))
  go_ret
  refine ⟨rfl, ?_⟩
  repeat' (first | exact Below.refl _ _ | assumption | refine Below.drew ?_ | refine below_dn ?_ _ | refine Below.alloc ?_ ?_ _ | refine Below.setCell ?_ ?_ _ | (refine below_t ?_ ?_ (by assumption)) | (simp <;> omega) | omega)

set_option maxHeartbeats 1000000 in
theorem within_2 (a0a : Int) (a0b : Int) (a1a : Int) (a1b : Int) (a2 : Int) (w : World) (ha0a : 0 ≤ a0a) (ha0a' : a0a ≤ 4294967295) (ha0b : -9223372036854775808 ≤ a0b) (ha0b' : a0b ≤ 9223372036854775807) (ha1a : 0 ≤ a1a) (ha1a' : a1a ≤ 4294967295) (ha1b : -9223372036854775808 ≤ a1b) (ha1b' : a1b ≤ 9223372036854775807) (ha2 : 0 ≤ a2) (ha2' : a2 ≤ 4294967295) (h1 : hasB a0a a0b a2 = true) (hk : chkZ a0a a0b = 0) (h2 : hasB a1a a1b a2 = false) :
    Calls Try.prog 11 #[.agg #[.int .u32 a0a, .int .i64 a0b], .agg #[.int .u32 a1a, .int .i64 a1b], .int .u32 a2] w fun e w' => e = .returned (.bool true) ∧ Below w.heap.size w w' := by
  have H := chk_40
  have f0 : ((w.alloc (.cells #[.int .u32 a0a, .int .i64 a0b] 43)).alloc (.cells #[.int .u32 a1a, .int .i64 a1b] 43)).cell? ⟨w.heap.size, 0, none⟩ = some (.int .u32 a0a) := by simp [go_sem]
  have f1 : ((w.alloc (.cells #[.int .u32 a0a, .int .i64 a0b] 43)).alloc (.cells #[.int .u32 a1a, .int .i64 a1b] 43)).cell? ⟨w.heap.size, 1, none⟩ = some (.int .i64 a0b) := by simp [go_sem]
  have f2 : ((w.alloc (.cells #[.int .u32 a0a, .int .i64 a0b] 43)).alloc (.cells #[.int .u32 a1a, .int .i64 a1b] 43)).cell? ⟨w.heap.size + 1, 0, none⟩ = some (.int .u32 a1a) := by simp [go_sem]
  have f3 : ((w.alloc (.cells #[.int .u32 a0a, .int .i64 a0b] 43)).alloc (.cells #[.int .u32 a1a, .int .i64 a1b] 43)).cell? ⟨w.heap.size + 1, 1, none⟩ = some (.int .i64 a1b) := by simp [go_sem]
  go_enter Try.func11, Try.ntmps11
  go_wp2_with (first
    | (go_at_call 25; go_must (refine (Check_any _ _ _ (by omega) (by omega) (by omega) (by omega)).mono ?_; rintro e w1 ⟨rfl, hb1⟩; have hz0 : w.heap.size ≤ w1.heap.size := (by have := hb1.size; (try simp at this); omega); (try (with_reducible have f0 := keep_cell hb1 f0)); (try (with_reducible have f1 := keep_cell hb1 f1)); (try (with_reducible have f2 := keep_cell hb1 f2)); (try (with_reducible have f3 := keep_cell hb1 f3))))
    | (go_at_call 26; go_must (refine (Has_any _ _ _ _ (by omega) (by omega) (by omega) (by omega) (by omega) (by omega)).mono ?_; rintro e w1 ⟨rfl, hb1⟩; have hz0 : w.heap.size ≤ w1.heap.size := (by have := hb1.size; (try simp at this); omega); (try (with_reducible have f0 := keep_cell hb1 f0)); (try (with_reducible have f1 := keep_cell hb1 f1)); (try (with_reducible have f2 := keep_cell hb1 f2)); (try (with_reducible have f3 := keep_cell hb1 f3)))))
  go_ret
  refine ⟨rfl, ?_⟩
  repeat' (first | exact Below.refl _ _ | assumption | refine Below.drew ?_ | refine below_dn ?_ _ | refine Below.alloc ?_ ?_ _ | refine Below.setCell ?_ ?_ _ | (refine below_t ?_ ?_ (by assumption)) | (simp <;> omega) | omega)

set_option maxHeartbeats 1000000 in
theorem within_3 (a0a : Int) (a0b : Int) (a1a : Int) (a1b : Int) (a2 : Int) (w : World) (ha0a : 0 ≤ a0a) (ha0a' : a0a ≤ 4294967295) (ha0b : -9223372036854775808 ≤ a0b) (ha0b' : a0b ≤ 9223372036854775807) (ha1a : 0 ≤ a1a) (ha1a' : a1a ≤ 4294967295) (ha1b : -9223372036854775808 ≤ a1b) (ha1b' : a1b ≤ 9223372036854775807) (ha2 : 0 ≤ a2) (ha2' : a2 ≤ 4294967295) (h1 : hasB a0a a0b a2 = true) (h2 : hasB a1a a1b a2 = true) (h3 : a0b ≤ a1b) (H3 : hasB a0a a0b a1a = true) :
    Calls Try.prog 11 #[.agg #[.int .u32 a0a, .int .i64 a0b], .agg #[.int .u32 a1a, .int .i64 a1b], .int .u32 a2] w fun e w' => e = .returned (.bool true) ∧ Below w.heap.size w w' := by
  have H := chk_40
  have f0 : ((w.alloc (.cells #[.int .u32 a0a, .int .i64 a0b] 43)).alloc (.cells #[.int .u32 a1a, .int .i64 a1b] 43)).cell? ⟨w.heap.size, 0, none⟩ = some (.int .u32 a0a) := by simp [go_sem]
  have f1 : ((w.alloc (.cells #[.int .u32 a0a, .int .i64 a0b] 43)).alloc (.cells #[.int .u32 a1a, .int .i64 a1b] 43)).cell? ⟨w.heap.size, 1, none⟩ = some (.int .i64 a0b) := by simp [go_sem]
  have f2 : ((w.alloc (.cells #[.int .u32 a0a, .int .i64 a0b] 43)).alloc (.cells #[.int .u32 a1a, .int .i64 a1b] 43)).cell? ⟨w.heap.size + 1, 0, none⟩ = some (.int .u32 a1a) := by simp [go_sem]
  have f3 : ((w.alloc (.cells #[.int .u32 a0a, .int .i64 a0b] 43)).alloc (.cells #[.int .u32 a1a, .int .i64 a1b] 43)).cell? ⟨w.heap.size + 1, 1, none⟩ = some (.int .i64 a1b) := by simp [go_sem]
  go_enter Try.func11, Try.ntmps11
  go_wp2_with (first
    | (go_at_call 25; go_must (refine (Check_any _ _ _ (by omega) (by omega) (by omega) (by omega)).mono ?_; rintro e w1 ⟨rfl, hb1⟩; have hz0 : w.heap.size ≤ w1.heap.size := (by have := hb1.size; (try simp at this); omega); (try (with_reducible have f0 := keep_cell hb1 f0)); (try (with_reducible have f1 := keep_cell hb1 f1)); (try (with_reducible have f2 := keep_cell hb1 f2)); (try (with_reducible have f3 := keep_cell hb1 f3))))
    | (go_at_call 26; go_must (refine (Has_any _ _ _ _ (by omega) (by omega) (by omega) (by omega) (by omega) (by omega)).mono ?_; rintro e w1 ⟨rfl, hb1⟩; have hz0 : w.heap.size ≤ w1.heap.size := (by have := hb1.size; (try simp at this); omega); (try (with_reducible have f0 := keep_cell hb1 f0)); (try (with_reducible have f1 := keep_cell hb1 f1)); (try (with_reducible have f2 := keep_cell hb1 f2)); (try (with_reducible have f3 := keep_cell hb1 f3)))))
  go_ret
  refine ⟨rfl, ?_⟩
  repeat' (first | exact Below.refl _ _ | assumption | refine Below.drew ?_ | refine below_dn ?_ _ | refine Below.alloc ?_ ?_ _ | refine Below.setCell ?_ ?_ _ | (refine below_t ?_ ?_ (by assumption)) | (simp <;> omega) | omega)

set_option maxHeartbeats 1000000 in
theorem within_4 (a0a : Int) (a0b : Int) (a1a : Int) (a1b : Int) (a2 : Int) (w : World) (ha0a : 0 ≤ a0a) (ha0a' : a0a ≤ 4294967295) (ha0b : -9223372036854775808 ≤ a0b) (ha0b' : a0b ≤ 9223372036854775807) (ha1a : 0 ≤ a1a) (ha1a' : a1a ≤ 4294967295) (ha1b : -9223372036854775808 ≤ a1b) (ha1b' : a1b ≤ 9223372036854775807) (ha2 : 0 ≤ a2) (ha2' : a2 ≤ 4294967295) (h1 : hasB a0a a0b a2 = true) (h2 : hasB a1a a1b a2 = true) (h3 : a1b < a0b) (H3 : hasB a1a a1b a0a = true) :
    Calls Try.prog 11 #[.agg #[.int .u32 a0a, .int .i64 a0b], .agg #[.int .u32 a1a, .int .i64 a1b], .int .u32 a2] w fun e w' => e = .returned (.bool true) ∧ Below w.heap.size w w' := by
  have H := chk_40
  have f0 : ((w.alloc (.cells #[.int .u32 a0a, .int .i64 a0b] 43)).alloc (.cells #[.int .u32 a1a, .int .i64 a1b] 43)).cell? ⟨w.heap.size, 0, none⟩ = some (.int .u32 a0a) := by simp [go_sem]
  have f1 : ((w.alloc (.cells #[.int .u32 a0a, .int .i64 a0b] 43)).alloc (.cells #[.int .u32 a1a, .int .i64 a1b] 43)).cell? ⟨w.heap.size, 1, none⟩ = some (.int .i64 a0b) := by simp [go_sem]
  have f2 : ((w.alloc (.cells #[.int .u32 a0a, .int .i64 a0b] 43)).alloc (.cells #[.int .u32 a1a, .int .i64 a1b] 43)).cell? ⟨w.heap.size + 1, 0, none⟩ = some (.int .u32 a1a) := by simp [go_sem]
  have f3 : ((w.alloc (.cells #[.int .u32 a0a, .int .i64 a0b] 43)).alloc (.cells #[.int .u32 a1a, .int .i64 a1b] 43)).cell? ⟨w.heap.size + 1, 1, none⟩ = some (.int .i64 a1b) := by simp [go_sem]
  have g0 : ((w.alloc (.cells #[.int .u32 a0a, .int .i64 a0b] 43)).alloc (.cells #[.int .u32 a1a, .int .i64 a1b] 43)).frozen? ⟨w.heap.size, 0, none⟩ = false := by simp [go_sem]
  have g1 : ((w.alloc (.cells #[.int .u32 a0a, .int .i64 a0b] 43)).alloc (.cells #[.int .u32 a1a, .int .i64 a1b] 43)).frozen? ⟨w.heap.size, 1, none⟩ = false := by simp [go_sem]
  have g2 : ((w.alloc (.cells #[.int .u32 a0a, .int .i64 a0b] 43)).alloc (.cells #[.int .u32 a1a, .int .i64 a1b] 43)).frozen? ⟨w.heap.size + 1, 0, none⟩ = false := by simp [go_sem]
  have g3 : ((w.alloc (.cells #[.int .u32 a0a, .int .i64 a0b] 43)).alloc (.cells #[.int .u32 a1a, .int .i64 a1b] 43)).frozen? ⟨w.heap.size + 1, 1, none⟩ = false := by simp [go_sem]
  go_enter Try.func11, Try.ntmps11
  go_wp2_with (first
    | (go_at_call 25; go_must (refine (Check_any _ _ _ (by omega) (by omega) (by omega) (by omega)).mono ?_; rintro e w1 ⟨rfl, hb1⟩; have hz0 : w.heap.size ≤ w1.heap.size := (by have := hb1.size; (try simp at this); omega); (try (with_reducible have g0 := keep_frozen hb1 f0 g0)); (try (with_reducible have g1 := keep_frozen hb1 f1 g1)); (try (with_reducible have g2 := keep_frozen hb1 f2 g2)); (try (with_reducible have g3 := keep_frozen hb1 f3 g3)); (try (with_reducible have f0 := keep_cell hb1 f0)); (try (with_reducible have f1 := keep_cell hb1 f1)); (try (with_reducible have f2 := keep_cell hb1 f2)); (try (with_reducible have f3 := keep_cell hb1 f3))))
    | (go_at_call 26; go_must (refine (Has_any _ _ _ _ (by omega) (by omega) (by omega) (by omega) (by omega) (by omega)).mono ?_; rintro e w1 ⟨rfl, hb1⟩; have hz0 : w.heap.size ≤ w1.heap.size := (by have := hb1.size; (try simp at this); omega); (try (with_reducible have g0 := keep_frozen hb1 f0 g0)); (try (with_reducible have g1 := keep_frozen hb1 f1 g1)); (try (with_reducible have g2 := keep_frozen hb1 f2 g2)); (try (with_reducible have g3 := keep_frozen hb1 f3 g3)); (try (with_reducible have f0 := keep_cell hb1 f0)); (try (with_reducible have f1 := keep_cell hb1 f1)); (try (with_reducible have f2 := keep_cell hb1 f2)); (try (with_reducible have f3 := keep_cell hb1 f3)))))
  go_ret
  refine ⟨rfl, ?_⟩
  repeat' (first | exact Below.refl _ _ | assumption | refine Below.drew ?_ | refine below_dn ?_ _ | refine Below.alloc ?_ ?_ _ | refine Below.setCell ?_ ?_ _ | (refine below_t ?_ ?_ (by assumption)) | (simp <;> omega) | omega)

theorem w_AddrWithin (a0a : Int) (a0b : Int) (a1a : Int) (a1b : Int) (a2 : Int) (w : World) (ha0a : 0 ≤ a0a) (ha0a' : a0a ≤ 4294967295) (ha0b : -9223372036854775808 ≤ a0b) (ha0b' : a0b ≤ 9223372036854775807) (ha1a : 0 ≤ a1a) (ha1a' : a1a ≤ 4294967295) (ha1b : -9223372036854775808 ≤ a1b) (ha1b' : a1b ≤ 9223372036854775807) (ha2 : 0 ≤ a2) (ha2' : a2 ≤ 4294967295) :
    Calls Try.prog 11 #[.agg #[.int .u32 a0a, .int .i64 a0b], .agg #[.int .u32 a1a, .int .i64 a1b], .int .u32 a2] w fun e w' => e = .returned (.bool true) ∧ Below w.heap.size w w' := by
  by_cases h1 : hasB a0a a0b a2 = true
  · obtain ⟨hk, _⟩ := has_true h1
    by_cases h2 : hasB a1a a1b a2 = true
    · by_cases h3 : a1b < a0b
      · exact within_4 a0a a0b a1a a1b a2 w ha0a ha0a' ha0b ha0b' ha1a ha1a' ha1b ha1b' ha2 ha2' h1 h2 h3 (has_within a1a a1b a0a a0b a2 h2 h1 (by omega))
      · exact within_3 a0a a0b a1a a1b a2 w ha0a ha0a' ha0b ha0b' ha1a ha1a' ha1b ha1b' ha2 ha2' h1 h2 (by omega) (has_within a0a a0b a1a a1b a2 h1 h2 (by omega))
    · exact within_2 a0a a0b a1a a1b a2 w ha0a ha0a' ha0b ha0b' ha1a ha1a' ha1b ha1b' ha2 ha2' h1 hk (by simpa using h2)
  · exact within_1 a0a a0b a1a a1b a2 w ha0a ha0a' ha0b ha0b' ha1a ha1a' ha1b ha1b' ha2 ha2' (by simpa using h1)
end Go.Proofs.Ytlehknaiddidaaa
