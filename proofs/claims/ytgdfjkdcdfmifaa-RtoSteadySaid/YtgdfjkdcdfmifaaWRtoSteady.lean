/- The walk of RtoSteady: it returns true. -/
import Derived.Test.YtgdfjkdcdfmifaaRtoP
import Derived.Test.YtgdfjkdcdfmifaaStep
namespace Go.Proofs.Ytgdfjkdcdfmifaa
open Go.RowKit
set_option linter.unusedVariables false

theorem Sample_told (g : Nat) (k : Bool) (m s d r : Int) (w : World) (hT : TimerAt w g k m s d) (ho : Told k m s d) (hr : 0 ≤ r) (hr' : r ≤ 99) :
    Calls Try.prog 17 #[.pointer (some ⟨g, 0, none⟩), .int .i64 r] w fun e w' => e = .returned (.int .i64 0) ∧ ∃ kn m s d, TimerAt w' g kn m s d ∧ Told kn m s d ∧ w.grownBy w' (some g) := by
  cases k
  · exact (Sample_first g m s d r w hT (by omega) (by omega)).mono fun e w' ⟨he, hT', hO⟩ => ⟨he, true, _, _, _, hT', told_first r hr hr', hO⟩
  · exact (Sample_next g m s d r w hT (told_ok ho) (by omega) (by omega)).mono fun e w' ⟨he, hT', hO⟩ => ⟨he, true, _, _, _, hT', told_next _ _ _ _ _ ho hr hr', hO⟩
theorem Sample_going (g : Nat) (k : Bool) (m s d r : Int) (j : Nat) (w : World) (hT : TimerAt w g k m s d) (ho : Going r j k m s d) (hr : 1 ≤ r) (hr' : r ≤ 60) :
    Calls Try.prog 17 #[.pointer (some ⟨g, 0, none⟩), .int .i64 r] w fun e w' => e = .returned (.int .i64 0) ∧ ∃ kn m s d, TimerAt w' g kn m s d ∧ Going r (j + 1) kn m s d ∧ w.grownBy w' (some g) := by
  cases k
  · exact (Sample_first g m s d r w hT (by omega) (by omega)).mono fun e w' ⟨he, hT', hO⟩ => ⟨he, true, _, _, _, hT', going_first hr hr' ho, hO⟩
  · exact (Sample_next g m s d r w hT (going_ok ho) (by omega) (by omega)).mono fun e w' ⟨he, hT', hO⟩ => ⟨he, true, _, _, _, hT', going_next hr hr' ho, hO⟩

set_option maxRecDepth 100000 in
set_option maxHeartbeats 1000000 in
theorem w_RtoSteady (A0 : Option Addr) (n0 c0 : Nat) (css0 : Nat → List Value) (a1 : Int) (w : World) (hR0 : Rows_ w A0 n0 ksStep css0) (hl0 : n0 ≤ 140737488351232) (ha1 : -9223372036854775808 ≤ a1) (ha1' : a1 ≤ 9223372036854775807) :
    Calls Try.prog 3 #[.slice A0 n0 c0, .int .i64 a1] w fun e w' => e = .returned (.bool true) ∧ Below w.heap.size w w' := by
  have hr1 : 1 ≤ 1 + a1 % 60 := by omega
  have hr2 : 1 + a1 % 60 ≤ 60 := by omega
  go_enter Try.func3, Try.ntmps3
  go_wp2_with (first | (go_at_call 15; go_must (refine (rtoNew_any _).mono ?_; rintro e w1 ⟨rfl, hT, hB⟩)) | (go_at_call 16; go_must (refine (Rest_any _ _ _ (by omega) (by omega) (by omega) (by omega)).mono ?_; rintro e w1 ⟨rfl, rfl⟩)))
  go_loopw [17] (fun i wr => ∃ (k : Nat) (kn : Bool) (m s d : Int), k ≤ n0 ∧ i = .int .i64 k ∧ TimerAt wr w.heap.size kn m s d ∧ Told kn m s d ∧ Below w.heap.size w wr) (fun i _ => n0 - (intOf i).toNat)
  case atStart => exact ⟨0, false, 0, 0, 0, by omega, rfl, hT, by unfold Told; omega, hB⟩
  case round =>
    obtain ⟨k, kn, m, s, d, hk, rfl, hTk, hok, hBk⟩ := hrel
    by_cases hlt : k < n0
    · obtain ⟨b, off, hA, hrg⟩ := hR0.at_ k hlt
      subst hA
      have hrg : wr.rangeAt b (off + k * 45) (css0 k) := range_kept hrg hBk
      have hokx := hR0.ok k hlt
      have hlen : (css0 k).length = 45 := okAll_len hokx
      have hone := all_oneCell_toArray (okAll_one hokx)
      have hi1 : (Try.prog.info? 40).map (·.size) = some (css0 k).length := by rw [hlen]; exact info_Step
      have hi2 : (Try.prog.info? 40).map (·.size) = some (css0 k).toArray.size := by rw [List.size_toArray]; exact hi1
      go_upto_region 8 with (first | (refine wpList_load_mid rfl 40 (.tmp 19) rfl b (off + k * 45) rfl (css0 k) _ hrg Try.underlying40 rfl hi1 ?_) | (refine wpList_store_mid rfl 40 (.tmp 7) (.tmp 20) rfl _ 0 (css0 k).toArray rfl rfl (there_new _ _ _ _ (by rw [List.size_toArray, hlen]; exact Nat.le_refl _)) hi2 hone ?_))
      refine wp_gen (fun W => Below wr.heap.size wr W ∧ W.rangeAt wr.heap.size 0 (css0 k) ∧ wr.heap.size < W.heap.size) (boxed _ _ _ _ (by rw [hlen]; exact Nat.le_refl _)) ?_
      rintro W2 ⟨hB2, hx2, hz2⟩
      obtain ⟨xa, hxa, hxa1, hxa2⟩ := step_int hokx 1 rfl
      have hT2 : TimerAt W2 w.heap.size kn m s d := hTk.kept hB2
      have hc : W2.cell? ⟨wr.heap.size, 1, none⟩ = some (.int .i64 xa) := by simpa using hx2 1 _ hxa
      go_wp2_with fail
      refine (Rest_any _ _ _ (by omega) (by omega) (by omega) (by omega)).mono ?_
      rintro e w3 ⟨rfl, rfl⟩
      clear hc
      go_wp2_with fail
      refine (Sample_told _ _ _ _ _ _ _ hT2 hok (by omega) (by omega)).mono ?_
      rintro e w4 ⟨rfl, kn4, m4, s4, d4, hT4, hok4, hO4⟩
      go_wp2_with fail
      go_roundw
      case rel => exact ⟨k + 1, kn4, m4, s4, d4, by omega, by go_num, hT4, hok4, below_only (below_c hBk hB2) hO4 (Nat.le_refl _)⟩
      case measure => simp [intOf]; omega
    · have hg := going_start (r := 1 + a1 % 60) hok
      clear hok
      go_wp2_with fail
      go_loopw [27] (fun i wr => ∃ (j : Nat) (kn : Bool) (m s d : Int), j ≤ 200 ∧ i = .int .i64 j ∧ TimerAt wr w.heap.size kn m s d ∧ Going (1 + a1 % 60) j kn m s d ∧ Below w.heap.size w wr) (fun i _ => 200 - (intOf i).toNat)
      case atStart => exact ⟨0, kn, m, s, d, by omega, rfl, hTk, hg, hBk⟩
      case round =>
        obtain ⟨j, kn, m, s, d, hj, rfl, hTj, hgj, hBj⟩ := hrel
        by_cases hlt2 : j < 200
        · go_wp2_with fail
          refine (Sample_going _ _ _ _ _ _ _ _ hTj hgj hr1 hr2).mono ?_
          rintro e w4 ⟨rfl, kn4, m4, s4, d4, hT4, hg4, hO4⟩
          go_wp2_with fail
          go_roundw
          case rel => exact ⟨j + 1, kn4, m4, s4, d4, by omega, by go_num, hT4, hg4, below_only hBj hO4 (Nat.le_refl _)⟩
          case measure => simp [intOf]; omega
        · obtain rfl : j = 200 := by omega
          obtain ⟨e1, e2⟩ := going_end hr1 hr2 hgj
          have hok := going_ok hgj
          go_wp2_with fail
          refine (Value_any _ _ _ _ _ _ hTj hok).mono ?_
          rintro e w3 ⟨rfl, hB3⟩
          go_wp2_with fail
          go_ret
          exact ⟨rfl, below_c hBj hB3⟩
end Go.Proofs.Ytgdfjkdcdfmifaa
