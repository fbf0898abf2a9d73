/- The walk of CookieOther: it returns true. -/
import Derived.Test.YtmcdmgnpbhkdhaaCookP
namespace Go.Proofs.Ytmcdmgnpbhkdhaa
open Go.RowKit
set_option linter.unusedVariables false

set_option maxRecDepth 100000 in
set_option maxHeartbeats 4000000 in
theorem w_CookieOther (a0 : Int) (a1 : Int) (a2a : Int) (a2b : Int) (a3a : Int) (a3b : Int) (a4 : Int) (a5 : Int) (a6 : Int) (a7 : Int) (w : World) (ha0 : 0 ≤ a0) (ha0' : a0 ≤ 18446744073709551615) (ha1 : 0 ≤ a1) (ha1' : a1 ≤ 18446744073709551615) (ha2a : 0 ≤ a2a) (ha2a' : a2a ≤ 4294967295) (ha2b : -9223372036854775808 ≤ a2b) (ha2b' : a2b ≤ 9223372036854775807) (ha3a : 0 ≤ a3a) (ha3a' : a3a ≤ 4294967295) (ha3b : -9223372036854775808 ≤ a3b) (ha3b' : a3b ≤ 9223372036854775807) (ha4 : 0 ≤ a4) (ha4' : a4 ≤ 4294967295) (ha5 : -9223372036854775808 ≤ a5) (ha5' : a5 ≤ 9223372036854775807) (ha6 : -9223372036854775808 ≤ a6) (ha6' : a6 ≤ 9223372036854775807) (ha7 : -9223372036854775808 ≤ a7) (ha7' : a7 ≤ 9223372036854775807) :
    Calls Try.prog 8 #[.int .u64 a0, .int .u64 a1, .agg #[.int .u32 a2a, .int .i64 a2b], .agg #[.int .u32 a3a, .int .i64 a3b], .int .u32 a4, .int .i64 a5, .int .i64 a6, .int .i64 a7] w fun e w' => e = .returned (.bool true) ∧ Below w.heap.size w w' := by
  go_enter Try.func8, Try.ntmps8
  go_upto_region 1 with (fail)
  refine wp_gen (fun W => Below w.heap.size w W ∧ At W w.heap.size 42 [.int .u32 a2a, .int .i64 a2b] ∧ At W (w.heap.size + 1) 42 [.int .u32 a3a, .int .i64 a3b]) ⟨by repeat' (first | with_reducible exact Below.refl _ _ | with_reducible assumption | with_reducible refine Below.drew ?_ | with_reducible refine below_dn ?_ _ | with_reducible refine below_ca ?_ _ | with_reducible refine Below.setCell ?_ ?_ _ | (refine below_c ?_ (by with_reducible assumption)) | (simp <;> omega) | omega), At.alloc (At.new_ _ _ _) _, ?_⟩ ?_
  · have h := At.new_ (w.alloc (.cells #[.int .u32 a2a, .int .i64 a2b] 42)) 42 [.int .u32 a3a, .int .i64 a3b]
    rw [show (w.alloc (.cells #[.int .u32 a2a, .int .i64 a2b] 42)).heap.size = w.heap.size + 1 by simp] at h
    exact h
  rintro W1 ⟨hB1, hF1, hT1⟩
  go_wp2_with fail
  refine (ckNew_any a0 a1 _).mono ?_
  rintro e W2 ⟨rfl, hK2, hB2⟩
  have h3 : Ck3 W2 W1.heap.size w.heap.size a0 a1 a2a a2b a3a a3b := ⟨hK2, hF1.kept hB2, hT1.kept hB2⟩
  have hBB := below_c hB1 hB2
  clear hF1 hT1 hK2
  obtain ⟨x0, x1, x2, x3⟩ := h3.cells
  obtain ⟨nw, hnw⟩ : ∃ nw, a6 % 549755813888 = nw := ⟨_, rfl⟩
  obtain ⟨d, hd⟩ : ∃ d, a7 % 29 = d := ⟨_, rfl⟩
  obtain ⟨ms, hms⟩ : ∃ ms, a5 % 2000 = ms := ⟨_, rfl⟩
  have n0 : 0 ≤ nw := by omega
  have n1 : nw ≤ 549755813887 := by omega
  have l0 : 0 ≤ d := by omega
  have l1 : d ≤ 28 := by omega
  have m0 : 0 ≤ ms := by omega
  have m1 : ms ≤ 1999 := by omega
  have HN := Lib.hid hnw
  have HD := Lib.hid hd
  have HM := Lib.hid hms
  clear hnw hd hms
  go_wp2_with fail
  refine (Rest_any _ _ _ (by omega) (by omega) (by omega) (by omega)).mono ?_
  rintro e W4 ⟨rfl, rfl⟩
  rw [HN.out]
  go_wp2_with fail
  refine (Rest_any _ _ _ (by omega) (by omega) (by omega) (by omega)).mono ?_
  rintro e W4 ⟨rfl, rfl⟩
  rw [HD.out]
  go_wp2_with fail
  refine (Rest_any _ _ _ (by omega) (by omega) (by omega) (by omega)).mono ?_
  rintro e W4 ⟨rfl, rfl⟩
  rw [HM.out]
  go_wp2_with fail
  refine (Make_any _ a0 a1 a2a a2b a3a a3b a4 _ nw _ h3.1 (by constructor <;> omega) (by constructor <;> omega) (by omega) (by omega) (by omega) (by omega) (by omega) (by omega) (by omega) (by omega) (by omega) (by omega) (by omega) (by omega) (by omega) (by omega)).mono ?_
  rintro e W5 ⟨rfl, hB5⟩
  have hmb := made_bd nw (8 + ms) a0 a1 a2a a2b a3a a3b a4
  have hms := made_sum nw (8 + ms) a0 a1 a2a a2b a3a a3b a4
  have hm8 : madeZ nw (8 + ms) a0 a1 a2a a2b a3a a3b a4 / 16777216 % 8 = (stepZ (8 + ms) 8 : Int) := by rw [made_first]; exact first_step nw (8 + ms)
  have hs0 := slot_new nw (8 + ms) a0 a1 a2a a2b a3a a3b a4 n0 0 (by omega) (by omega)
  have hs1 := slot_new nw (8 + ms) a0 a1 a2a a2b a3a a3b a4 n0 64 (by omega) (by omega)
  have hso := slot_old nw (8 + ms) a0 a1 a2a a2b a3a a3b a4 (64 * (2 + d)) (by omega) (by omega)
  rw [Int.add_zero] at hs0
  have hfold : firstZ nw (8 + ms) * 16777216 + ckV a0 a1 a2a a2b a3a a3b a4 (firstZ nw (8 + ms)) = madeZ nw (8 + ms) a0 a1 a2a a2b a3a a3b a4 := rfl
  rw [hfold]
  clear hfold
  generalize madeZ nw (8 + ms) a0 a1 a2a a2b a3a a3b a4 = C at *
  generalize stepZ (8 + ms) 8 = K at *
  have HMS := Lib.hid hms
  have HM8 := Lib.hid hm8
  have HS0 := Lib.hid hs0
  have HS1 := Lib.hid hs1
  have HSO := Lib.hid hso
  obtain ⟨cb0, cb1⟩ := hmb
  clear hms hm8 hs0 hs1 hso
  have h5 := h3.kept hB5
  have hB6 := below_c hBB hB5
  clear h3 hBB x0 x1 x2 x3
  obtain ⟨x0, x1, x2, x3⟩ := h5.cells
  go_wp2_with fail
  refine (CkCheck_ok _ a0 a1 _ _ _ _ _ _ _ _ h5.1 (by constructor <;> omega) (by constructor <;> omega) (by omega) (by omega) (by omega) (by omega) (by omega) (by omega) (by omega) (by omega) (by omega) (by omega) (by omega) (by omega) (by omega) (by omega) HS0.out HMS.out _ HM8.out).mono ?_
  rintro e W6 ⟨rfl, hB7⟩
  have h6 := h5.kept hB7
  have hB8 := below_c hB6 hB7
  clear h5 hB6 x0 x1 x2 x3
  obtain ⟨x0, x1, x2, x3⟩ := h6.cells
  go_wp2_with fail
  refine (CkCheck_late _ a0 a1 _ _ _ _ _ _ _ _ (by omega) (by omega) (by omega) (by omega) (by omega) (by omega) HSO.out).mono ?_
  rintro e W7 ⟨rfl, hB9⟩
  have h7 := h6.kept hB9
  have hB10 := below_c hB8 hB9
  clear h6 hB8 x0 x1 x2 x3
  obtain ⟨x0, x1, x2, x3⟩ := h7.cells
  go_wp2_with fail
  refine (CkCheck_ok _ a0 a1 _ _ _ _ _ _ _ _ h7.1 (by constructor <;> omega) (by constructor <;> omega) (by omega) (by omega) (by omega) (by omega) (by omega) (by omega) (by omega) (by omega) (by omega) (by omega) (by omega) (by omega) (by omega) (by omega) HS1.out HMS.out _ HM8.out).mono ?_
  rintro e W8 ⟨rfl, hB11⟩
  go_wp2_with fail
  go_ret
  exact ⟨rfl, below_c hB10 hB11⟩
end Go.Proofs.Ytmcdmgnpbhkdhaa
