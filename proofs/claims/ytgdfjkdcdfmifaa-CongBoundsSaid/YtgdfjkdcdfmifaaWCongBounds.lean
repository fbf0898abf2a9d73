/- The walk of CongBounds: it returns true. -/
import Derived.Test.YtgdfjkdcdfmifaaCongC
import Derived.Test.YtgdfjkdcdfmifaaStep
namespace Go.Proofs.Ytgdfjkdcdfmifaa
open Go.RowKit
set_option linter.unusedVariables false

theorem half_bd (m f : Int) (h1 : 8 ≤ m) (h2 : m ≤ 1000) : 2 * m ≤ halfZ m f ∧ halfZ m f ≤ 65535 := by
  unfold halfZ; (repeat' split) <;> omega
theorem half_top (m f : Int) (h1 : 8 ≤ m) (h2 : m ≤ 1000) : halfZ m f ≤ 2 * m ∨ halfZ m f ≤ f.tdiv 2 := by
  by_cases h : 0 ≤ f
  · rw [Int.tdiv_eq_ediv_of_nonneg h]
    unfold halfZ; (repeat' split) <;> omega
  · left
    unfold halfZ; (repeat' split) <;> omega
theorem ack_bd (m s l n : Int) (ho : WindowOk m s l) (hn : 1 ≤ n) : s ≤ ackZ m s l n ∧ ackZ m s l n ≤ s + m ∧ ackZ m s l n ≤ 65535 := by
  obtain ⟨h1, h2, h3, h4, h5, h6⟩ := ho
  obtain ⟨q1, q2, q3, q4⟩ := quo_bd m s h1 h2 h3
  unfold ackZ minZ maxZ
  generalize m * m / s = q at *
  (repeat' split) <;> omega
/-- what Acked leaves -/
theorem Acked_any (g : Nat) (m s l n : Int) (w : World) (hT : WindowAt w g m s l) (ho : WindowOk m s l) (hn : -9223372036854775808 ≤ n) (hn' : n ≤ 9223372036854775807) :
    Calls Try.prog 31 #[.pointer (some ⟨g, 0, none⟩), .int .i64 n] w fun e w' => e = .returned (.tuple #[]) ∧ ∃ s', WindowAt w' g m s' l ∧ s ≤ s' ∧ s' ≤ s + m ∧ s' ≤ 65535 ∧ (n < 1 → s' = s) ∧ w.grownBy w' (some g) := by
  by_cases h : n < 1
  · refine (Acked_none g n w h hn).mono fun e w' ⟨he, hw⟩ => ⟨he, s, hw ▸ hT, by omega, ?_, ?_, fun _ => rfl, hw ▸ only_refl _ _⟩
    · have := ho.1; omega
    · exact ho.2.2.2.1
  · obtain ⟨b1, b2, b3⟩ := ack_bd m s l n ho (by omega)
    by_cases hsl : s < l
    · exact (Acked_fast g m s l n w hT ho (by omega) hn' hsl).mono fun e w' ⟨he, hT', hO⟩ => ⟨he, _, hT', b1, b2, b3, fun hh => absurd hh h, hO⟩
    · exact (Acked_slow g m s l n w hT ho (by omega) hn' (by omega)).mono fun e w' ⟨he, hT', hO⟩ => ⟨he, _, hT', b1, b2, b3, fun hh => absurd hh h, hO⟩
theorem Lost_any (g : Nat) (m s l f : Int) (w : World) (hT : WindowAt w g m s l) (ho : WindowOk m s l) (hf : -9223372036854775808 ≤ f) (hf' : f ≤ 9223372036854775807) :
    Calls Try.prog 28 #[.pointer (some ⟨g, 0, none⟩), .int .i64 f] w fun e w' => e = .returned (.tuple #[]) ∧ WindowAt w' g m (halfZ m f) (halfZ m f) ∧ w.grownBy w' (some g) := by
  go_enter Try.func28, Try.ntmps28
  go_wp2_with fail
  refine (halve_any _ _ _ _ _ _ hT ho hf hf').mono ?_
  rintro e w1 ⟨rfl, hT1, hO1⟩
  have c1 : w1.cell? ⟨g, 1, none⟩ = some (.int .i64 s) := hT1.cell 1
  have c2 : w1.cell? ⟨g, 2, none⟩ = some (.int .i64 (halfZ m f)) := hT1.cell 2
  have f1 : w1.frozen? ⟨g, 1, none⟩ = false := hT1.free 1
  go_wp2_with fail
  go_end0
  exact ⟨rfl, hT1.set_ 1 _, only_set hO1 (.inl rfl) _⟩
theorem Silent_any (g : Nat) (m s l f : Int) (w : World) (hT : WindowAt w g m s l) (ho : WindowOk m s l) (hf : -9223372036854775808 ≤ f) (hf' : f ≤ 9223372036854775807) :
    Calls Try.prog 30 #[.pointer (some ⟨g, 0, none⟩), .int .i64 f] w fun e w' => e = .returned (.tuple #[]) ∧ WindowAt w' g m m (halfZ m f) ∧ w.grownBy w' (some g) := by
  go_enter Try.func30, Try.ntmps30
  go_wp2_with fail
  refine (halve_any _ _ _ _ _ _ hT ho hf hf').mono ?_
  rintro e w1 ⟨rfl, hT1, hO1⟩
  have c0 : w1.cell? ⟨g, 0, none⟩ = some (.int .i64 m) := hT1.cell 0
  have c1 : w1.cell? ⟨g, 1, none⟩ = some (.int .i64 s) := hT1.cell 1
  have f1 : w1.frozen? ⟨g, 1, none⟩ = false := hT1.free 1
  go_wp2_with fail
  go_end0
  exact ⟨rfl, hT1.set_ 1 _, only_set hO1 (.inl rfl) _⟩

set_option maxRecDepth 100000 in
set_option maxHeartbeats 4000000 in
theorem cong_yes (a0 : Int) (A1 : Option Addr) (n1 c1 : Nat) (css1 : Nat → List Value) (w : World) (hR1 : Rows_ w A1 n1 ksStep css1) (hl1 : n1 ≤ 140737488351232) (h8 : 8 ≤ a0) (h9 : a0 ≤ 1000) :
    Calls Try.prog 7 #[.int .i64 a0, .slice A1 n1 c1] w fun e w' => e = .returned (.bool true) ∧ Below w.heap.size w w' := by
  go_enter Try.func7, Try.ntmps7
  go_wp2_with fail
  refine (congNew_yes _ _ h8 h9).mono ?_
  rintro e w1 ⟨rfl, hT1, hB1⟩
  go_wp2_with fail
  refine (congNew_no 0 _ (by omega) (by omega) (by omega)).mono ?_
  rintro e w1 ⟨rfl, rfl⟩
  go_wp2_with fail
  go_loopw [37] (fun i wr => ∃ (k : Nat) (s l : Int), k ≤ n1 ∧ i = .int .i64 k ∧ WindowAt wr w.heap.size a0 s l ∧ WindowOk a0 s l ∧ Below w.heap.size w wr) (fun i _ => n1 - (intOf i).toNat)
  case atStart => exact ⟨0, _, _, by omega, rfl, hT1, by unfold WindowOk; omega, hB1⟩
  case round =>
    obtain ⟨k, s, l, hk, rfl, hTk, hok, hBk⟩ := hrel
    by_cases hlt : k < n1
    · obtain ⟨b, off, hA, hrg⟩ := hR1.at_ k hlt
      subst hA
      have hrg : wr.rangeAt b (off + k * 45) (css1 k) := range_kept hrg hBk
      have hokx := hR1.ok k hlt
      have hlen : (css1 k).length = 45 := okAll_len hokx
      have hone := all_oneCell_toArray (okAll_one hokx)
      have hi1 : (Try.prog.info? 40).map (·.size) = some (css1 k).length := by rw [hlen]; exact info_Step
      have hi2 : (Try.prog.info? 40).map (·.size) = some (css1 k).toArray.size := by rw [List.size_toArray]; exact hi1
      go_upto_region 10 with (first | (refine wpList_load_mid rfl 40 (.tmp 39) rfl b (off + k * 45) rfl (css1 k) _ hrg Try.underlying40 rfl hi1 ?_) | (refine wpList_store_mid rfl 40 (.tmp 10) (.tmp 40) rfl _ 0 (css1 k).toArray rfl rfl (there_new _ _ _ _ (by rw [List.size_toArray, hlen]; exact Nat.le_refl _)) hi2 hone ?_))
      refine wp_gen (fun W => Below wr.heap.size wr W ∧ W.rangeAt wr.heap.size 0 (css1 k) ∧ wr.heap.size < W.heap.size) (boxed _ _ _ _ (by rw [hlen]; exact Nat.le_refl _)) ?_
      rintro W2 ⟨hB2, hx2, hz2⟩
      obtain ⟨kd, hkd, hkd1, hkd2⟩ := step_int hokx 0 rfl
      obtain ⟨xa, hxa, hxa1, hxa2⟩ := step_int hokx 1 rfl
      have hT2 : WindowAt W2 w.heap.size a0 s l := hTk.kept hB2
      go_wp2_with fail
      refine (Size_any _ _ _ _ _ hT2).mono ?_
      rintro e w3 ⟨rfl, rfl⟩
      go_wp2_with (refine wpList_load_mid rfl 40 (.tmp 10) rfl wr.heap.size 0 rfl (css1 k) _ hx2 Try.underlying40 rfl hi1 ?_)
      refine (Of_any (css1 k) kd 4 _ hkd hkd1 hkd2 (by omega) (by omega)).mono ?_
      rintro e w4 ⟨rfl, hB4⟩
      have hT4 : WindowAt w4 w.heap.size a0 s l := hT2.kept hB4
      have hx4 := range_kept hx2 hB4
      have hW4 : Below w.heap.size w w4 := below_c (below_c hBk hB2) hB4
      have hz4 : wr.heap.size < w4.heap.size := Nat.lt_of_lt_of_le hz2 hB4.size
      have hc : w4.cell? ⟨wr.heap.size, 1, none⟩ = some (.int .i64 xa) := by simpa using hx4 1 _ hxa
      obtain ⟨t1, t2⟩ := half_bd a0 xa h8 h9
      by_cases h0 : kd % 4 = 0
      · have h0' : (kd % 4 == 0) = true := by simpa using h0
        clear h0
        go_wp2_with fail
        refine (Lost_any _ _ _ _ _ _ hT4 hok hxa1 hxa2).mono ?_
        rintro e w5 ⟨rfl, hT5, hO5⟩
        have hne : some wr.heap.size ≠ some w.heap.size := by
          intro e
          have := hTk.lt
          injection e with e
          omega
        have hc5 : w5.cell? ⟨wr.heap.size, 1, none⟩ = some (.int .i64 xa) := (World.cell?_of_block (hO5.block wr.heap.size hz4 hne)).trans hc
        have ht := half_top a0 xa h8 h9
        have hok5 : WindowOk a0 (halfZ a0 xa) (halfZ a0 xa) := by unfold WindowOk; omega
        generalize halfZ a0 xa = hf at *
        have hW5 : Below w.heap.size w w5 := below_only hW4 hO5 (Nat.le_refl _)
        clear hc hx4 hx2
        go_wp2_with fail
        have e1 : IntKind.i64.wrap (xa.tdiv 2) = xa.tdiv 2 := wrap_i64_tdiv xa 2 hxa1 hxa2 (by omega)
        have e2 : IntKind.i64.wrap (2 * a0) = 2 * a0 := IntWalk.i64_in _ (by omega)
        have d1 : decide (hf < 2 * a0) = false := by simp; omega
        have d5 : decide (hf < a0) = false := by simp; omega
        have d6 : decide (65535 < hf) = false := by simp; omega
        have hw5 : wr.heap.size < w5.heap.size := Nat.lt_of_lt_of_le hz4 hO5.size
        by_cases hmx : 2 * a0 < xa.tdiv 2
        · have d2 : decide (xa.tdiv 2 < hf) = false := by simp; omega
          go_quiet ((first | (go_at_call 27; exact quiet_l (Size_any _ _ _ _ _ (hT5.drewN _))) | (go_at_call 29; exact quiet_l (Slow_any _ _ _ _ _ (hT5.drewN _)))))
          clear e1 e2
          go_wp2_with (first | (go_at_call 27; go_must (refine (Size_any _ _ _ _ _ (hT5.drewN _)).mono ?_; rintro e w6 ⟨rfl, rfl⟩)) | (go_at_call 29; go_must (refine (Slow_any _ _ _ _ _ (hT5.drewN _)).mono ?_; rintro e w6 ⟨rfl, rfl⟩)))
          go_roundw
          case rel => exact ⟨k + 1, _, _, by omega, by go_num, hT5.drewN _, hok5, below_dn hW5 _⟩
          case measure => simp [intOf]; omega
        · have d2 : decide (2 * a0 < hf) = false := by simp; omega
          go_quiet ((first | (go_at_call 27; exact quiet_l (Size_any _ _ _ _ _ (hT5.drewN _))) | (go_at_call 29; exact quiet_l (Slow_any _ _ _ _ _ (hT5.drewN _)))))
          clear e1 e2
          go_wp2_with (first | (go_at_call 27; go_must (refine (Size_any _ _ _ _ _ (hT5.drewN _)).mono ?_; rintro e w6 ⟨rfl, rfl⟩)) | (go_at_call 29; go_must (refine (Slow_any _ _ _ _ _ (hT5.drewN _)).mono ?_; rintro e w6 ⟨rfl, rfl⟩)))
          go_roundw
          case rel => exact ⟨k + 1, _, _, by omega, by go_num, hT5.drewN _, hok5, below_dn hW5 _⟩
          case measure => simp [intOf]; omega
      · have h0' : (kd % 4 == 0) = false := by simpa using h0
        by_cases h1 : kd % 4 = 1
        · have h1' : (kd % 4 == 1) = true := by simpa using h1
          clear h0 h1
          go_wp2_with fail
          refine (Silent_any _ _ _ _ _ _ hT4 hok hxa1 hxa2).mono ?_
          rintro e w5 ⟨rfl, hT5, hO5⟩
          have hok5 : WindowOk a0 a0 (halfZ a0 xa) := by unfold WindowOk; omega
          generalize halfZ a0 xa = hf at *
          have hW5 : Below w.heap.size w w5 := below_only hW4 hO5 (Nat.le_refl _)
          clear hc hx4 hx2
          go_wp2_with (first | (go_at_call 27; go_must (refine (Size_any _ _ _ _ _ hT5).mono ?_; rintro e w6 ⟨rfl, rfl⟩)) | (go_at_call 29; go_must (refine (Slow_any _ _ _ _ _ hT5).mono ?_; rintro e w6 ⟨rfl, rfl⟩)))
          go_roundw
          case rel => exact ⟨k + 1, _, _, by omega, by go_num, hT5, hok5, hW5⟩
          case measure => simp [intOf]; omega
        · have h1' : (kd % 4 == 1) = false := by simpa using h1
          clear h0 h1 t1 t2
          go_wp2_with fail
          refine (Acked_any _ _ _ _ _ _ hT4 hok hxa1 hxa2).mono ?_
          rintro e w5 ⟨rfl, s5, hT5, b1, b2, b3, b4, hO5⟩
          have hne : some wr.heap.size ≠ some w.heap.size := by
            intro e
            have := hTk.lt
            injection e with e
            omega
          have hc5 : w5.cell? ⟨wr.heap.size, 1, none⟩ = some (.int .i64 xa) := (World.cell?_of_block (hO5.block wr.heap.size hz4 hne)).trans hc
          have hok5 : WindowOk a0 s5 l := by unfold WindowOk at *; omega
          have hk1 := hok5.2.2.1
          have hk2 := hok5.2.2.2.2.1
          have hk3 := hok5.2.2.2.2.2
          have hW5 : Below w.heap.size w w5 := below_only hW4 hO5 (Nat.le_refl _)
          clear hc hx4 hx2
          by_cases hx1 : xa < 1
          · have hs5 := b4 hx1
            clear b4
            subst hs5
            go_wp2_with (first | (go_at_call 27; go_must (refine (Size_any _ _ _ _ _ hT5).mono ?_; rintro e w6 ⟨rfl, rfl⟩)) | (go_at_call 29; go_must (refine (Slow_any _ _ _ _ _ hT5).mono ?_; rintro e w6 ⟨rfl, rfl⟩)))
            go_roundw
            case rel => exact ⟨k + 1, _, _, by omega, by go_num, hT5, hok5, hW5⟩
            case measure => simp [intOf]; omega
          · clear b4
            go_wp2_with (first | (go_at_call 27; go_must (refine (Size_any _ _ _ _ _ hT5).mono ?_; rintro e w6 ⟨rfl, rfl⟩)) | (go_at_call 29; go_must (refine (Slow_any _ _ _ _ _ hT5).mono ?_; rintro e w6 ⟨rfl, rfl⟩)))
            go_roundw
            case rel => exact ⟨k + 1, _, _, by omega, by go_num, hT5, hok5, hW5⟩
            case measure => simp [intOf]; omega
    · have hs := hok.2.2.1
      go_wp2_with fail
      refine (Size_any _ _ _ _ _ hTk).mono ?_
      rintro e w3 ⟨rfl, rfl⟩
      go_wp2_with fail
      go_ret
      exact ⟨rfl, hBk⟩

theorem w_CongBounds (a0 : Int) (A1 : Option Addr) (n1 c1 : Nat) (css1 : Nat → List Value) (w : World) (ha0 : -9223372036854775808 ≤ a0) (ha0' : a0 ≤ 9223372036854775807) (hR1 : Rows_ w A1 n1 ksStep css1) (hl1 : n1 ≤ 140737488351232) :
    Calls Try.prog 7 #[.int .i64 a0, .slice A1 n1 c1] w fun e w' => e = .returned (.bool true) ∧ Below w.heap.size w w' := by
  by_cases h : a0 < 8 ∨ 1000 < a0
  · go_enter Try.func7, Try.ntmps7
    go_wp2_with fail
    refine (congNew_no _ _ h ha0 ha0').mono ?_
    rintro e w1 ⟨rfl, rfl⟩
    go_wp2_with fail
    refine (congNew_no 0 _ (by omega) (by omega) (by omega)).mono ?_
    rintro e w1 ⟨rfl, rfl⟩
    go_wp2_with fail
    go_ret
    exact ⟨rfl, Below.refl _ _⟩
  · exact cong_yes a0 A1 n1 c1 css1 w hR1 hl1 (by omega) (by omega)
end Go.Proofs.Ytgdfjkdcdfmifaa
