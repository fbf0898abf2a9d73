/- The walk of InqEdges: it returns true. -/
import Derived.Test.YtgdfjkdcdfmifaaInqF
import Derived.Test.YtgdfjkdcdfmifaaStep
namespace Go.Proofs.Ytgdfjkdcdfmifaa
open Go.RowKit
set_option linter.unusedVariables false

set_option maxRecDepth 100000 in
set_option maxHeartbeats 4000000 in
theorem w_InqEdges (A0 : Option Addr) (n0 c0 : Nat) (css0 : Nat → List Value) (a1 : Int) (s2 : ByteArray) (w : World) (hR0 : Rows_ w A0 n0 ksStep css0) (hl0 : n0 ≤ 140737488351232) (ha1 : -9223372036854775808 ≤ a1) (ha1' : a1 ≤ 9223372036854775807) (hs2 : s2.size ≤ 140737488351232) :
    Calls Try.prog 8 #[.slice A0 n0 c0, .int .i64 a1, .string s2] w fun e w' => e = .returned (.bool true) ∧ Below w.heap.size w w' := by
  go_enter Try.func8, Try.ntmps8
  go_wp2_with fail
  refine (inqNew_any _).mono ?_
  rintro e W1 ⟨rfl, hQ1, hB1⟩
  go_wp2_with fail
  go_loopw [18] (fun i wr => ∃ (k : Nat) (q : IQ), k ≤ n0 ∧ i = .int .i64 k ∧ InqAt wr w.heap.size q ∧ Seen q ∧ Below w.heap.size w wr) (fun i _ => n0 - (intOf i).toNat)
  case atStart => exact ⟨0, newIQ, by omega, rfl, hQ1, seen_new, hB1⟩
  case round =>
    obtain ⟨k, q, hk, rfl, hQk, hS, hBk⟩ := hrel
    by_cases hlt : k < n0
    · obtain ⟨b, off, hA, hrg⟩ := hR0.at_ k hlt
      subst hA
      have hrg : wr.rangeAt b (off + k * 45) (css0 k) := range_kept hrg hBk
      have hokx := hR0.ok k hlt
      have hlen : (css0 k).length = 45 := okAll_len hokx
      have hone := all_oneCell_toArray (okAll_one hokx)
      have hi1 : (Try.prog.info? 40).map (·.size) = some (css0 k).length := by rw [hlen]; exact info_Step
      have hi2 : (Try.prog.info? 40).map (·.size) = some (css0 k).toArray.size := by rw [List.size_toArray]; exact hi1
      go_upto_region 7 with (first | (refine wpList_load_mid rfl 40 (.tmp 20) rfl b (off + k * 45) rfl (css0 k) _ hrg Try.underlying40 rfl hi1 ?_) | (refine wpList_store_mid rfl 40 (.tmp 9) (.tmp 21) rfl _ 0 (css0 k).toArray rfl rfl (there_new _ _ _ _ (by rw [List.size_toArray, hlen]; exact Nat.le_refl _)) hi2 hone ?_))
      refine wp_gen (fun W => Below wr.heap.size wr W ∧ W.rangeAt wr.heap.size 0 (css0 k) ∧ wr.heap.size < W.heap.size) (boxed _ _ _ _ (by rw [hlen]; exact Nat.le_refl _)) ?_
      rintro W2 ⟨hB2, hx2, hz2⟩
      obtain ⟨xa, hxa, hxa1, hxa2⟩ := step_int hokx 1 rfl
      obtain ⟨xs, hxs, hxs1⟩ := step_str hokx 4 rfl
      have hQ2 : InqAt W2 w.heap.size q := hQk.kept hB2
      have hW2 := below_c hBk hB2
      have hqw := hQk.lt
      have ca : W2.cell? ⟨wr.heap.size, 1, none⟩ = some (.int .i64 xa) := by simpa using hx2 1 _ hxa
      have cs : W2.cell? ⟨wr.heap.size, 4, none⟩ = some (.string xs) := by simpa using hx2 4 _ hxs
      go_wp2_with fail
      refine (Put_all _ q _ _ _ _ hQ2 hS.ok hxa1 hxa2 hxs1).mono ?_
      rintro e w5 ⟨rfl, hQ5, hO5⟩
      go_wp2_with fail
      go_roundw
      case rel => exact ⟨k + 1, _, by omega, by go_num, hQ5, hS.put xa xs, below_only hW2 hO5 (Nat.le_refl _)⟩
      case measure => simp [intOf]; omega
    · have hnb := ok_open hS.ok hS.ov
      have hrd1 := hS.rd
      have hez : endZ q - q.rd = q.nx - 1 := by unfold endZ; rw [hS.ov, hrd1]; simp
      have n1 : 1 ≤ q.nx := by omega
      have n2 : q.nx ≤ 2049 := by omega
      have e9 : q.nx + (2048 - (q.nx - 1)) = 2049 := by omega
      have HZ := Lib.hid hez
      have HR := Lib.hid hrd1
      clear hez hrd1 hnb
      obtain ⟨a, ha⟩ : ∃ a, a1 % 5000 = a := ⟨_, rfl⟩
      have a0 : 0 ≤ a := by omega
      have a4 : a ≤ 4999 := by omega
      have HA := Lib.hid ha
      have H9 := Lib.hid e9
      clear ha e9
      go_wp2_with fail
      refine (Next_any _ q _ hQk).mono ?_
      rintro e w6 ⟨rfl, rfl⟩
      go_wp2_with fail
      refine (Next_any _ q _ hQk).mono ?_
      rintro e w6 ⟨rfl, rfl⟩
      go_wp2_with fail
      refine (Window_any _ q _ hQk hS.ok).mono ?_
      rintro e w6 ⟨rfl, hB6⟩
      rw [HZ.out]
      have hQ6 : InqAt w6 w.heap.size q := hQk.kept hB6
      have hB7 := below_c hBk hB6
      go_wp2_with fail
      refine (Ready_any _ q _ hQ6 hS.ok).mono ?_
      rintro e w8 ⟨rfl, hB8⟩
      rw [HZ.out]
      have hQ8 : InqAt w8 w.heap.size q := hQ6.kept hB8
      have hB9 := below_c hB7 hB8
      go_wp2_with fail
      rw [H9.out]
      refine (Rest_any _ _ _ (by omega) (by omega) (by omega) (by omega)).mono ?_
      rintro e w10 ⟨rfl, rfl⟩
      rw [HA.out]
      go_wp2_with fail
      refine (Put_all _ q _ _ _ _ hQ8 hS.ok (by omega) (by omega) hs2).mono ?_
      rintro e w11 ⟨rfl, hQ11, hO11⟩
      have hB11 := below_only hB9 hO11 (Nat.le_refl _)
      have ok1 := put_ok hS.ok (by rw [HR.out]; omega) (2049 + a) s2 true
      have st1 := put_stop hS.ok hS.stop (2049 + a) s2 true
      have nx1 := put_nx hS.ok (2049 + a) s2 true
      have rd1 : (putQ q (2049 + a) s2 true).rd = 1 := by rw [put_rd, HR.out]
      by_cases hap : 0 < a
      · obtain ⟨t1, t2, t3⟩ := put_still hS.ok hS.ov hS.stop (2049 + a) s2 true (.inl (by rw [HR.out]; omega)) (.inr (by rw [HR.out]; omega))
        generalize putQ q (2049 + a) s2 true = q1 at *
        obtain ⟨u1, u2, u3⟩ := put_still ok1 t2 st1 (q.nx - s2.size - a) s2 false (.inr (by omega)) (.inl rfl)
        have ok2 := put_ok ok1 (by omega) (q.nx - s2.size - a) s2 false
        have rd2 : (putQ q1 (q.nx - s2.size - a) s2 false).rd = 1 := by rw [put_rd, rd1]
        generalize hq2 : putQ q1 (q.nx - s2.size - a) s2 false = q2 at *
        have hd1 : decide (q.nx < q1.nx) = false := by simp; omega
        have hd2 : decide (q1.nx < q2.nx) = false := by simp; omega
        have hn2 : q2.nx = q.nx := by omega
        have hez2 : endZ q2 - q2.rd = q.nx - 1 := by unfold endZ; rw [u2, rd2, hn2]; simp
        rw [hd1]
        have H2 := Lib.hid hd2
        have HN2 := Lib.hid hn2
        have HE2 := Lib.hid hez2
        have HQ2 := Lib.hid hq2
        clear hd1 hd2 hn2 hez2 t1 t2 t3 u1 u2 u3 rd1 rd2 hq2
        go_wp2_with fail
        refine (Put_all _ q1 _ _ _ _ hQ11 ok1 (by omega) (by omega) hs2).mono ?_
        rintro e w12 ⟨rfl, hQ12, hO12⟩
        rw [HQ2.out] at hQ12 ⊢
        rw [H2.out]
        have hB12 := below_only hB11 hO12 (Nat.le_refl _)
        go_wp2_with fail
        refine (Next_any _ q2 _ hQ12).mono ?_
        rintro e w13 ⟨rfl, rfl⟩
        rw [HN2.out]
        go_wp2_with fail
        refine (Ready_any _ q2 _ hQ12 ok2).mono ?_
        rintro e w13 ⟨rfl, hB13⟩
        rw [HE2.out]
        go_wp2_with fail
        go_ret
        exact ⟨rfl, below_c hB12 hB13⟩
      · obtain rfl : a = 0 := by omega
        generalize putQ q (2049 + 0) s2 true = q1 at *
        have hd2 : decide (q1.nx < (putQ q1 (q.nx - s2.size) s2 false).nx) = false := by
          cases ho : q1.over
          · obtain ⟨u1, u2, u3⟩ := put_still ok1 ho st1 (q.nx - s2.size) s2 false (.inr (by omega)) (.inl rfl)
            rw [u1]; simp
          · rw [putQ_idle s2 false (.inr (.inr ho))]; simp
        have ok2 := put_ok ok1 (by omega) (q.nx - s2.size) s2 false
        have HD2 := Lib.hid hd2
        clear hd2 rd1 st1
        generalize hb1 : decide (q.nx < q1.nx) = b1
        clear hb1
        cases b1
        all_goals
          go_wp2_with fail
          refine (Put_all _ q1 (q.nx - s2.size) _ _ _ hQ11 ok1 (by omega) (by omega) hs2).mono ?_
          rintro e w12 ⟨rfl, hQ12, hO12⟩
          rw [HD2.out]
          have hB12 := below_only hB11 hO12 (Nat.le_refl _)
          go_wp2_with fail
          refine (Next_any _ _ _ hQ12).mono ?_
          rintro e w13 ⟨rfl, rfl⟩
          cases hbb : ((putQ q1 (q.nx - s2.size) s2 false).nx == q.nx)
          · go_wp2_with fail
            go_ret
            exact ⟨rfl, hB12⟩
          · go_wp2_with fail
            refine (Ready_any _ _ _ hQ12 ok2).mono ?_
            rintro e w13 ⟨rfl, hB13⟩
            go_wp2_with fail
            all_goals
              go_ret
              exact ⟨rfl, below_c hB12 hB13⟩
end Go.Proofs.Ytgdfjkdcdfmifaa
