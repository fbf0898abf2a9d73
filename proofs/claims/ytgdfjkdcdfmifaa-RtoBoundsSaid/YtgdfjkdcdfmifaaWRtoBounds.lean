/- The walk of RtoBounds: it returns true. -/
import Derived.Test.YtgdfjkdcdfmifaaRtoC
import Derived.Test.YtgdfjkdcdfmifaaStep
namespace Go.Proofs.Ytgdfjkdcdfmifaa
open Go.RowKit
set_option linter.unusedVariables false

set_option maxRecDepth 100000 in
set_option maxHeartbeats 1000000 in
theorem w_RtoBounds (A0 : Option Addr) (n0 c0 : Nat) (css0 : Nat → List Value) (w : World) (hR0 : Rows_ w A0 n0 ksStep css0) (hl0 : n0 ≤ 140737488351232) :
    Calls Try.prog 4 #[.slice A0 n0 c0] w fun e w' => e = .returned (.bool true) ∧ Below w.heap.size w w' := by
  go_enter Try.func4, Try.ntmps4
  go_wp2_with (go_at_call 15; go_must (refine (rtoNew_any _).mono ?_; rintro e w1 ⟨rfl, hT, hB⟩))
  go_loopw [13] (fun i wr => ∃ (k : Nat) (kn : Bool) (m s d : Int), k ≤ n0 ∧ i = .int .i64 k ∧ TimerAt wr w.heap.size kn m s d ∧ TimerOk m s d ∧ Below w.heap.size w wr) (fun i _ => n0 - (intOf i).toNat)
  case atStart => exact ⟨0, false, 0, 0, 0, by omega, rfl, hT, zero_ok, hB⟩
  case round =>
    obtain ⟨k, kn, m, s, d, hk, rfl, hTk, hok, hBk⟩ := hrel
    by_cases hlt : k < n0
    · obtain ⟨b, off, hA, hrg⟩ := hR0.at_ k hlt
      subst hA
      have hrg : wr.rangeAt b (off + k * 45) (css0 k) := range_kept hrg hBk
      have hokx := hR0.ok k hlt
      have hlen := step_len hokx
      have hone := all_oneCell_toArray (okAll_one hokx)
      have hi1 : (Try.prog.info? 40).map (·.size) = some (css0 k).length := by rw [hlen]; exact step_info
      have hi2 : (Try.prog.info? 40).map (·.size) = some (css0 k).toArray.size := by rw [List.size_toArray]; exact hi1
      obtain ⟨kd, hkd, hkd1, hkd2⟩ := step_int hokx 0 rfl
      obtain ⟨xa, hxa, hxa1, hxa2⟩ := step_int hokx 1 rfl
      go_wp2_with (first
        | (refine wpList_load_mid rfl 40 (.tmp 15) rfl b (off + k * 45) rfl (css0 k) _ hrg Try.underlying40 rfl hi1 ?_)
        | (refine wpList_store_mid rfl 40 (.tmp 5) (.tmp 16) rfl _ 0 (css0 k).toArray rfl rfl (there_new _ _ _ _ (by rw [List.size_toArray, hlen]; exact Nat.le_refl _)) hi2 hone ?_))
      refine calls_gen (fun W => Below wr.heap.size wr W ∧ W.rangeAt wr.heap.size 0 (css0 k) ∧ wr.heap.size < W.heap.size) (boxed _ _ _ _ (by rw [hlen]; exact Nat.le_refl _)) ?_
      rintro W2 ⟨hB2, hx2, hz2⟩
      have hT2 : TimerAt W2 w.heap.size kn m s d := hTk.kept hB2
      refine (Value_any _ _ _ _ _ _ hT2 hok).mono ?_
      rintro e w3 ⟨rfl, hB3⟩
      have hT3 : TimerAt w3 w.heap.size kn m s d := hT2.kept hB3
      have hx3 := range_kept hx2 hB3
      have hv := val_bd kn m s d
      obtain ⟨hv1, hv2⟩ := hv
      go_wp2_with (refine wpList_load_mid rfl 40 (.tmp 5) rfl wr.heap.size 0 rfl (css0 k) _ hx3 Try.underlying40 rfl hi1 ?_)
      refine (Of_any (css0 k) kd 3 _ hkd hkd1 hkd2 (by omega) (by omega)).mono ?_
      rintro e w4 ⟨rfl, hB4⟩
      have hT4 : TimerAt w4 w.heap.size kn m s d := hT3.kept hB4
      have hx4 := range_kept hx3 hB4
      have hW4 : Below w.heap.size w w4 := below_c (below_c (below_c hBk hB2) hB3) hB4
      by_cases h3 : kd % 3 = 0
      · have h3' : (kd % 3 == 0) = true := by simpa using h3
        clear h3
        obtain ⟨l1, l2⟩ := val_late kn m s d hok
        have hok5 := late_ok m s d hok
        go_wp2_with fail
        refine (Late_any _ _ _ _ _ _ hT4 hok).mono ?_
        rintro e w5 ⟨rfl, hT5, hO5⟩
        generalize (if d < 6 then d + 1 else 6) = d5 at *
        obtain ⟨hv3, hv4⟩ := val_bd kn m s d5
        go_wp2_with fail
        refine (Value_any _ _ _ _ _ _ hT5 hok5).mono ?_
        rintro e w6 ⟨rfl, hB6⟩
        have hT6 : TimerAt w6 w.heap.size kn m s d5 := hT5.kept hB6
        go_wp2_with fail
        refine (Value_any _ _ _ _ _ _ hT6 hok5).mono ?_
        rintro e w7 ⟨rfl, hB7⟩
        have hT7 : TimerAt w7 w.heap.size kn m s d5 := hT6.kept hB7
        go_wp2_with fail
        refine (Value_any _ _ _ _ _ _ hT7 hok5).mono ?_
        rintro e w8 ⟨rfl, hB8⟩
        have hT8 : TimerAt w8 w.heap.size kn m s d5 := hT7.kept hB8
        have hW8 : Below w.heap.size w w8 := below_c (below_c (below_c (below_only hW4 hO5 (Nat.le_refl _)) hB6) hB7) hB8
        go_wp2_with fail
        go_roundw
        case rel => exact ⟨k + 1, kn, m, s, d5, by omega, by go_num, hT8, hok5, hW8⟩
        case measure => simp [intOf]; omega
      · have h3' : (kd % 3 == 0) = false := by simpa using h3
        clear h3
        have hc : w4.cell? ⟨wr.heap.size, 1, none⟩ = some (.int .i64 xa) := by simpa using hx4 1 _ hxa
        go_wp2_with fail
        refine (Sample_some _ _ _ _ _ _ _ hT4 hok).mono ?_
        rintro e w5 ⟨⟨r5, rfl⟩, kn5, m5, s5, d5, hT5, hok5, hO5⟩
        obtain ⟨hv3, hv4⟩ := val_bd kn5 m5 s5 d5
        clear hc
        go_wp2_with fail
        refine (Value_any _ _ _ _ _ _ hT5 hok5).mono ?_
        rintro e w7 ⟨rfl, hB7⟩
        have hT7 : TimerAt w7 w.heap.size kn5 m5 s5 d5 := hT5.kept hB7
        go_wp2_with fail
        refine (Value_any _ _ _ _ _ _ hT7 hok5).mono ?_
        rintro e w8 ⟨rfl, hB8⟩
        have hT8 : TimerAt w8 w.heap.size kn5 m5 s5 d5 := hT7.kept hB8
        have hW8 : Below w.heap.size w w8 := below_c (below_c (below_only hW4 hO5 (Nat.le_refl _)) hB7) hB8
        go_wp2_with fail
        go_roundw
        case rel => exact ⟨k + 1, kn5, m5, s5, d5, by omega, by go_num, hT8, hok5, hW8⟩
        case measure => simp [intOf]; omega
    · obtain ⟨hv1, hv2⟩ := val_bd kn m s d
      go_wp2_with fail
      refine (Value_any _ _ _ _ _ _ hTk hok).mono ?_
      rintro e w3 ⟨rfl, hB3⟩
      go_wp2_with fail
      go_ret
      exact ⟨rfl, below_c hBk hB3⟩
end Go.Proofs.Ytgdfjkdcdfmifaa
