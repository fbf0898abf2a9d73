/- The walk of SumWords: it returns true. -/
import Derived.Test.YtlehknaiddidaaaSumP
namespace Go.Proofs.Ytlehknaiddidaaa
open Go.RowKit
set_option linter.unusedVariables false

theorem words_swap (a b : List UInt8) (ha : a.length % 2 = 0) (hb : b.length % 2 = 0) : sumZ (a ++ b) = sumZ (b ++ a) := by
  unfold sumZ; rw [wsum_app_even a b ha, wsum_app_even b a hb, Int.add_comm]
theorem words_upd (a b : List UInt8) (x y : Int) (hx : 0 ≤ x) (hx' : x ≤ 65535) (hy : 0 ≤ y) (hy' : y ≤ 65535) (ha : a.length % 2 = 0) (hb : b.length % 2 = 0) :
    updZ (65535 - sumZ (a ++ (two x ++ b))) x y % 65535 = (65535 - sumZ (a ++ (two y ++ b))) % 65535 := by
  have h1 := wsum_lo a
  have h2 := wsum_lo b
  have e : ∀ n : Int, 0 ≤ n → n ≤ 65535 → sumZ (a ++ (two n ++ b)) = foldZ (wsum a + (n + wsum b)) := by
    intro n h h'
    unfold sumZ
    rw [wsum_app_even a _ ha, wsum_app_even (two n) b (by rw [two_len]), wsum_two' n h h']
  rw [e x hx hx', e y hy hy']
  unfold updZ
  have f1 := foldZ_mod (wsum a + (x + wsum b)) (by omega)
  have f2 := foldZ_mod (wsum a + (y + wsum b)) (by omega)
  have f3 := foldZ_bd (wsum a + (x + wsum b)) (by omega)
  have f4 := foldZ_mod (65535 - (65535 - foldZ (wsum a + (x + wsum b))) + (65535 - x) + y) (by omega)
  omega
theorem upd_bd (c a b : Int) (hc' : c ≤ 65535) (ha' : a ≤ 65535) (h : 0 ≤ b) : 0 ≤ updZ c a b ∧ updZ c a b ≤ 65535 := by
  have := foldZ_bd ((65535 - c) + (65535 - a) + b) (by omega)
  unfold updZ; omega

theorem tail_len (s : ByteArray) (h : 1 ≤ s.size) : (List.take (s.size - 1) s.data.toList.tail).length = s.size - 1 := by
  rw [List.length_take, List.length_tail, data_len]; omega
set_option maxHeartbeats 400000 in
theorem words_0 (s0 : ByteArray) (s1 : ByteArray) (a2 : Int) (a3 : Int) (w : World) (hs0 : s0.size ≤ 140737488351232) (hs1 : s1.size ≤ 140737488351232) (ha2 : 0 ≤ a2) (ha2' : a2 ≤ 65535) (ha3 : 0 ≤ a3) (ha3' : a3 ≤ 65535) (h0 : s0.size % 2 = 0) (h1 : s1.size % 2 = 0) :
    Calls Try.prog 9 #[.string s0, .string s1, .int .u16 a2, .int .u16 a3] w fun e w' => e = .returned (.bool true) ∧ Below w.heap.size w w' := by
  have o0 : ((s0.size : Int) % 2 == 1) = false := by simp; omega
  have o1 : ((s1.size : Int) % 2 == 1) = false := by simp; omega
  have l0 : s0.data.toList.length % 2 = 0 := by rw [data_len]; omega
  have l1 : s1.data.toList.length % 2 = 0 := by rw [data_len]; omega
  have he := sum_empty
  have H := words_swap s0.data.toList s1.data.toList l0 l1
  have H2 := words_upd s0.data.toList s1.data.toList a2 a3 ha2 ha2' ha3 ha3' l0 l1
  have k1 := sumZ_lo (s0.data.toList ++ (two a2 ++ s1.data.toList))
  have k2 := sumZ_hi (s0.data.toList ++ (two a2 ++ s1.data.toList))
  have k3 := sumZ_lo (s0.data.toList ++ (two a3 ++ s1.data.toList))
  have k4 := sumZ_hi (s0.data.toList ++ (two a3 ++ s1.data.toList))
  have k5 := (upd_bd (65535 - sumZ (s0.data.toList ++ (two a2 ++ s1.data.toList))) a2 a3 (by omega) (by omega) (by omega)).1
  have k6 := (upd_bd (65535 - sumZ (s0.data.toList ++ (two a2 ++ s1.data.toList))) a2 a3 (by omega) (by omega) (by omega)).2
  clear h0 h1 l0 l1
  go_enter Try.func9, Try.ntmps9
  go_wp2_with (first
    | (go_at_call 19; go_must (refine (Sum_is _ _ (by first | omega | (show Array.size (ByteArray.data _) ≤ _; simp <;> omega))).mono ?_; rintro e w1 ⟨rfl, hb1⟩))
    | (go_at_call 21; go_must (refine (Check16_any _ _ (by first | omega | (show Array.size (ByteArray.data _) ≤ _; simp <;> omega))).mono ?_; rintro e w1 ⟨rfl, hb1⟩))
    | (go_at_call 23; go_must (refine (two_any _ _ (by omega) (by omega)).mono ?_; rintro e w1 ⟨rfl, hb1⟩))
    | (go_at_call 22; go_must (refine (Update_any _ _ _ _ (by omega) (by omega) (by omega) (by omega) (by omega) (by omega)).mono ?_; rintro e w1 ⟨rfl, rfl⟩)))
  go_ret
  refine ⟨rfl, ?_⟩
  repeat' (first | exact Below.refl _ _ | with_reducible assumption | refine Below.drew ?_ | refine below_dn ?_ _ | refine below_ca ?_ _ | refine Below.setCell ?_ ?_ _ | (refine below_c ?_ (by with_reducible assumption)) | (simp <;> omega) | omega)
set_option maxHeartbeats 400000 in
theorem words_1 (s0 : ByteArray) (s1 : ByteArray) (a2 : Int) (a3 : Int) (w : World) (hs0 : s0.size ≤ 140737488351232) (hs1 : s1.size ≤ 140737488351232) (ha2 : 0 ≤ a2) (ha2' : a2 ≤ 65535) (ha3 : 0 ≤ a3) (ha3' : a3 ≤ 65535) (h0 : s0.size % 2 = 1) (h1 : s1.size % 2 = 0) :
    Calls Try.prog 9 #[.string s0, .string s1, .int .u16 a2, .int .u16 a3] w fun e w' => e = .returned (.bool true) ∧ Below w.heap.size w w' := by
  have o0 : ((s0.size : Int) % 2 == 1) = true := by simp; omega
  have o1 : ((s1.size : Int) % 2 == 1) = false := by simp; omega
  have l0 : (List.take (s0.size - 1) s0.data.toList.tail).length % 2 = 0 := by rw [tail_len s0 (by omega)]; omega
  have l1 : s1.data.toList.length % 2 = 0 := by rw [data_len]; omega
  have g0 : 1 ≤ s0.size := by omega
  have he := sum_empty
  have H := words_swap (List.take (s0.size - 1) s0.data.toList.tail) s1.data.toList l0 l1
  have H2 := words_upd (List.take (s0.size - 1) s0.data.toList.tail) s1.data.toList a2 a3 ha2 ha2' ha3 ha3' l0 l1
  have k1 := sumZ_lo ((List.take (s0.size - 1) s0.data.toList.tail) ++ (two a2 ++ s1.data.toList))
  have k2 := sumZ_hi ((List.take (s0.size - 1) s0.data.toList.tail) ++ (two a2 ++ s1.data.toList))
  have k3 := sumZ_lo ((List.take (s0.size - 1) s0.data.toList.tail) ++ (two a3 ++ s1.data.toList))
  have k4 := sumZ_hi ((List.take (s0.size - 1) s0.data.toList.tail) ++ (two a3 ++ s1.data.toList))
  have k5 := (upd_bd (65535 - sumZ ((List.take (s0.size - 1) s0.data.toList.tail) ++ (two a2 ++ s1.data.toList))) a2 a3 (by omega) (by omega) (by omega)).1
  have k6 := (upd_bd (65535 - sumZ ((List.take (s0.size - 1) s0.data.toList.tail) ++ (two a2 ++ s1.data.toList))) a2 a3 (by omega) (by omega) (by omega)).2
  clear h0 h1 l0 l1
  go_enter Try.func9, Try.ntmps9
  go_wp2_with (first
    | (go_at_call 19; go_must (refine (Sum_is _ _ (by first | omega | (show Array.size (ByteArray.data _) ≤ _; simp <;> omega))).mono ?_; rintro e w1 ⟨rfl, hb1⟩))
    | (go_at_call 21; go_must (refine (Check16_any _ _ (by first | omega | (show Array.size (ByteArray.data _) ≤ _; simp <;> omega))).mono ?_; rintro e w1 ⟨rfl, hb1⟩))
    | (go_at_call 23; go_must (refine (two_any _ _ (by omega) (by omega)).mono ?_; rintro e w1 ⟨rfl, hb1⟩))
    | (go_at_call 22; go_must (refine (Update_any _ _ _ _ (by omega) (by omega) (by omega) (by omega) (by omega) (by omega)).mono ?_; rintro e w1 ⟨rfl, rfl⟩)))
  go_ret
  refine ⟨rfl, ?_⟩
  repeat' (first | exact Below.refl _ _ | with_reducible assumption | refine Below.drew ?_ | refine below_dn ?_ _ | refine below_ca ?_ _ | refine Below.setCell ?_ ?_ _ | (refine below_c ?_ (by with_reducible assumption)) | (simp <;> omega) | omega)
set_option maxHeartbeats 400000 in
theorem words_2 (s0 : ByteArray) (s1 : ByteArray) (a2 : Int) (a3 : Int) (w : World) (hs0 : s0.size ≤ 140737488351232) (hs1 : s1.size ≤ 140737488351232) (ha2 : 0 ≤ a2) (ha2' : a2 ≤ 65535) (ha3 : 0 ≤ a3) (ha3' : a3 ≤ 65535) (h0 : s0.size % 2 = 0) (h1 : s1.size % 2 = 1) :
    Calls Try.prog 9 #[.string s0, .string s1, .int .u16 a2, .int .u16 a3] w fun e w' => e = .returned (.bool true) ∧ Below w.heap.size w w' := by
  have o0 : ((s0.size : Int) % 2 == 1) = false := by simp; omega
  have o1 : ((s1.size : Int) % 2 == 1) = true := by simp; omega
  have l0 : s0.data.toList.length % 2 = 0 := by rw [data_len]; omega
  have l1 : (List.take (s1.size - 1) s1.data.toList.tail).length % 2 = 0 := by rw [tail_len s1 (by omega)]; omega
  have g1 : 1 ≤ s1.size := by omega
  have he := sum_empty
  have H := words_swap s0.data.toList (List.take (s1.size - 1) s1.data.toList.tail) l0 l1
  have H2 := words_upd s0.data.toList (List.take (s1.size - 1) s1.data.toList.tail) a2 a3 ha2 ha2' ha3 ha3' l0 l1
  have k1 := sumZ_lo (s0.data.toList ++ (two a2 ++ (List.take (s1.size - 1) s1.data.toList.tail)))
  have k2 := sumZ_hi (s0.data.toList ++ (two a2 ++ (List.take (s1.size - 1) s1.data.toList.tail)))
  have k3 := sumZ_lo (s0.data.toList ++ (two a3 ++ (List.take (s1.size - 1) s1.data.toList.tail)))
  have k4 := sumZ_hi (s0.data.toList ++ (two a3 ++ (List.take (s1.size - 1) s1.data.toList.tail)))
  have k5 := (upd_bd (65535 - sumZ (s0.data.toList ++ (two a2 ++ (List.take (s1.size - 1) s1.data.toList.tail)))) a2 a3 (by omega) (by omega) (by omega)).1
  have k6 := (upd_bd (65535 - sumZ (s0.data.toList ++ (two a2 ++ (List.take (s1.size - 1) s1.data.toList.tail)))) a2 a3 (by omega) (by omega) (by omega)).2
  clear h0 h1 l0 l1
  go_enter Try.func9, Try.ntmps9
  go_wp2_with (first
    | (go_at_call 19; go_must (refine (Sum_is _ _ (by first | omega | (show Array.size (ByteArray.data _) ≤ _; simp <;> omega))).mono ?_; rintro e w1 ⟨rfl, hb1⟩))
    | (go_at_call 21; go_must (refine (Check16_any _ _ (by first | omega | (show Array.size (ByteArray.data _) ≤ _; simp <;> omega))).mono ?_; rintro e w1 ⟨rfl, hb1⟩))
    | (go_at_call 23; go_must (refine (two_any _ _ (by omega) (by omega)).mono ?_; rintro e w1 ⟨rfl, hb1⟩))
    | (go_at_call 22; go_must (refine (Update_any _ _ _ _ (by omega) (by omega) (by omega) (by omega) (by omega) (by omega)).mono ?_; rintro e w1 ⟨rfl, rfl⟩)))
  go_ret
  refine ⟨rfl, ?_⟩
  repeat' (first | exact Below.refl _ _ | with_reducible assumption | refine Below.drew ?_ | refine below_dn ?_ _ | refine below_ca ?_ _ | refine Below.setCell ?_ ?_ _ | (refine below_c ?_ (by with_reducible assumption)) | (simp <;> omega) | omega)
set_option maxHeartbeats 400000 in
theorem words_3 (s0 : ByteArray) (s1 : ByteArray) (a2 : Int) (a3 : Int) (w : World) (hs0 : s0.size ≤ 140737488351232) (hs1 : s1.size ≤ 140737488351232) (ha2 : 0 ≤ a2) (ha2' : a2 ≤ 65535) (ha3 : 0 ≤ a3) (ha3' : a3 ≤ 65535) (h0 : s0.size % 2 = 1) (h1 : s1.size % 2 = 1) :
    Calls Try.prog 9 #[.string s0, .string s1, .int .u16 a2, .int .u16 a3] w fun e w' => e = .returned (.bool true) ∧ Below w.heap.size w w' := by
  have o0 : ((s0.size : Int) % 2 == 1) = true := by simp; omega
  have o1 : ((s1.size : Int) % 2 == 1) = true := by simp; omega
  have l0 : (List.take (s0.size - 1) s0.data.toList.tail).length % 2 = 0 := by rw [tail_len s0 (by omega)]; omega
  have l1 : (List.take (s1.size - 1) s1.data.toList.tail).length % 2 = 0 := by rw [tail_len s1 (by omega)]; omega
  have g0 : 1 ≤ s0.size := by omega
  have g1 : 1 ≤ s1.size := by omega
  have he := sum_empty
  have H := words_swap (List.take (s0.size - 1) s0.data.toList.tail) (List.take (s1.size - 1) s1.data.toList.tail) l0 l1
  have H2 := words_upd (List.take (s0.size - 1) s0.data.toList.tail) (List.take (s1.size - 1) s1.data.toList.tail) a2 a3 ha2 ha2' ha3 ha3' l0 l1
  have k1 := sumZ_lo ((List.take (s0.size - 1) s0.data.toList.tail) ++ (two a2 ++ (List.take (s1.size - 1) s1.data.toList.tail)))
  have k2 := sumZ_hi ((List.take (s0.size - 1) s0.data.toList.tail) ++ (two a2 ++ (List.take (s1.size - 1) s1.data.toList.tail)))
  have k3 := sumZ_lo ((List.take (s0.size - 1) s0.data.toList.tail) ++ (two a3 ++ (List.take (s1.size - 1) s1.data.toList.tail)))
  have k4 := sumZ_hi ((List.take (s0.size - 1) s0.data.toList.tail) ++ (two a3 ++ (List.take (s1.size - 1) s1.data.toList.tail)))
  have k5 := (upd_bd (65535 - sumZ ((List.take (s0.size - 1) s0.data.toList.tail) ++ (two a2 ++ (List.take (s1.size - 1) s1.data.toList.tail)))) a2 a3 (by omega) (by omega) (by omega)).1
  have k6 := (upd_bd (65535 - sumZ ((List.take (s0.size - 1) s0.data.toList.tail) ++ (two a2 ++ (List.take (s1.size - 1) s1.data.toList.tail)))) a2 a3 (by omega) (by omega) (by omega)).2
  clear h0 h1 l0 l1
  go_enter Try.func9, Try.ntmps9
  go_wp2_with (first
    | (go_at_call 19; go_must (refine (Sum_is _ _ (by first | omega | (show Array.size (ByteArray.data _) ≤ _; simp <;> omega))).mono ?_; rintro e w1 ⟨rfl, hb1⟩))
    | (go_at_call 21; go_must (refine (Check16_any _ _ (by first | omega | (show Array.size (ByteArray.data _) ≤ _; simp <;> omega))).mono ?_; rintro e w1 ⟨rfl, hb1⟩))
    | (go_at_call 23; go_must (refine (two_any _ _ (by omega) (by omega)).mono ?_; rintro e w1 ⟨rfl, hb1⟩))
    | (go_at_call 22; go_must (refine (Update_any _ _ _ _ (by omega) (by omega) (by omega) (by omega) (by omega) (by omega)).mono ?_; rintro e w1 ⟨rfl, rfl⟩)))
  go_ret
  refine ⟨rfl, ?_⟩
  repeat' (first | exact Below.refl _ _ | with_reducible assumption | refine Below.drew ?_ | refine below_dn ?_ _ | refine below_ca ?_ _ | refine Below.setCell ?_ ?_ _ | (refine below_c ?_ (by with_reducible assumption)) | (simp <;> omega) | omega)
theorem w_SumWords (s0 : ByteArray) (s1 : ByteArray) (a2 : Int) (a3 : Int) (w : World) (hs0 : s0.size ≤ 140737488351232) (hs1 : s1.size ≤ 140737488351232) (ha2 : 0 ≤ a2) (ha2' : a2 ≤ 65535) (ha3 : 0 ≤ a3) (ha3' : a3 ≤ 65535) :
    Calls Try.prog 9 #[.string s0, .string s1, .int .u16 a2, .int .u16 a3] w fun e w' => e = .returned (.bool true) ∧ Below w.heap.size w w' := by
  by_cases h0 : s0.size % 2 = 0
  · by_cases h1 : s1.size % 2 = 0
    · exact words_0 s0 s1 a2 a3 w hs0 hs1 ha2 ha2' ha3 ha3' h0 h1
    · exact words_2 s0 s1 a2 a3 w hs0 hs1 ha2 ha2' ha3 ha3' h0 (by omega)
  · by_cases h1 : s1.size % 2 = 0
    · exact words_1 s0 s1 a2 a3 w hs0 hs1 ha2 ha2' ha3 ha3' (by omega) h1
    · exact words_3 s0 s1 a2 a3 w hs0 hs1 ha2 ha2' ha3 ha3' (by omega) (by omega)
end Go.Proofs.Ytlehknaiddidaaa
