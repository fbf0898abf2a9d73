/- The walk of InqTwice: it returns true. -/
import Derived.Test.YtgdfjkdcdfmifaaInqF
import Derived.Test.YtgdfjkdcdfmifaaStep
namespace Go.Proofs.Ytgdfjkdcdfmifaa
open Go.RowKit
set_option linter.unusedVariables false

set_option maxRecDepth 100000 in
set_option maxHeartbeats 4000000 in
theorem w_InqTwice (A0 : Option Addr) (n0 c0 : Nat) (css0 : Nat → List Value) (a1 : Int) (s2 : ByteArray) (b3 : Bool) (w : World) (hR0 : Rows_ w A0 n0 ksStep css0) (hl0 : n0 ≤ 140737488351232) (ha1 : -9223372036854775808 ≤ a1) (ha1' : a1 ≤ 9223372036854775807) (hs2 : s2.size ≤ 140737488351232) :
    Calls Try.prog 9 #[.slice A0 n0 c0, .int .i64 a1, .string s2, .bool b3] w fun e w' => e = .returned (.bool true) ∧ Below w.heap.size w w' := by
  go_enter Try.func9, Try.ntmps9
  go_wp2_with fail
  refine (inqNew_any _).mono ?_
  rintro e W1 ⟨rfl, hQ1, hB1⟩
  go_wp2_with fail
  go_loopw [20] (fun i wr => ∃ (k : Nat) (q : IQ), k ≤ n0 ∧ i = .int .i64 k ∧ InqAt wr w.heap.size q ∧ Seen q ∧ Below w.heap.size w wr) (fun i _ => n0 - (intOf i).toNat)
  case atStart => exact ⟨0, newIQ, by omega, rfl, hQ1, seen_new, hB1⟩
  case round =>
    obtain ⟨k, q, hk, rfl, hQk, hS, hBk⟩ := hrel
    by_cases hlt : k < n0
    · obtain ⟨b, off, hA, hrg⟩ := hR0.at_ k hlt
      subst hA
      have hrg : wr.rangeAt b (off + k * 45) (css0 k) := range_kept hrg hBk
      have hokx := hR0.ok k hlt
      have hlen : (css0 k).length = 45 := okAll_len hokx
      have hone := all_oneCell_toArray (okAll_one hokx)
      have hi1 : (Try.prog.info? 40).map (·.size) = some (css0 k).length := by rw [hlen]; exact info_Step
      have hi2 : (Try.prog.info? 40).map (·.size) = some (css0 k).toArray.size := by rw [List.size_toArray]; exact hi1
      go_upto_region 7 with (first | (refine wpList_load_mid rfl 40 (.tmp 22) rfl b (off + k * 45) rfl (css0 k) _ hrg Try.underlying40 rfl hi1 ?_) | (refine wpList_store_mid rfl 40 (.tmp 11) (.tmp 23) rfl _ 0 (css0 k).toArray rfl rfl (there_new _ _ _ _ (by rw [List.size_toArray, hlen]; exact Nat.le_refl _)) hi2 hone ?_))
      refine wp_gen (fun W => Below wr.heap.size wr W ∧ W.rangeAt wr.heap.size 0 (css0 k) ∧ wr.heap.size < W.heap.size) (boxed _ _ _ _ (by rw [hlen]; exact Nat.le_refl _)) ?_
      rintro W2 ⟨hB2, hx2, hz2⟩
      obtain ⟨xa, hxa, hxa1, hxa2⟩ := step_int hokx 1 rfl
      obtain ⟨xs, hxs, hxs1⟩ := step_str hokx 4 rfl
      have hQ2 : InqAt W2 w.heap.size q := hQk.kept hB2
      have hW2 := below_c hBk hB2
      have hqw := hQk.lt
      have ca : W2.cell? ⟨wr.heap.size, 1, none⟩ = some (.int .i64 xa) := by simpa using hx2 1 _ hxa
      have cs : W2.cell? ⟨wr.heap.size, 4, none⟩ = some (.string xs) := by simpa using hx2 4 _ hxs
      go_wp2_with fail
      refine (Put_all _ q _ _ _ _ hQ2 hS.ok hxa1 hxa2 hxs1).mono ?_
      rintro e w5 ⟨rfl, hQ5, hO5⟩
      go_wp2_with fail
      go_roundw
      case rel => exact ⟨k + 1, _, by omega, by go_num, hQ5, hS.put xa xs, below_only hW2 hO5 (Nat.le_refl _)⟩
      case measure => simp [intOf]; omega
    · have ok1 := put_ok hS.ok (by rw [hS.rd]; omega) a1 s2 b3
      have htw := put_twice hS.ok (by rw [hS.rd]; omega) hS.stop a1 s2 b3
      have hrd := put_rd (putQ q a1 s2 b3) a1 s2 b3
      have ok2 := put_ok ok1 (by rw [put_rd, hS.rd]; omega) a1 s2 b3
      go_wp2_with fail
      refine (Put_all _ q _ _ _ _ hQk hS.ok ha1 ha1' hs2).mono ?_
      rintro e w5 ⟨rfl, hQ5, hO5⟩
      have hB5 := below_only hBk hO5 (Nat.le_refl _)
      generalize decide (q.nx < (putQ q a1 s2 b3).nx) = b1
      generalize putQ q a1 s2 b3 = q1 at *
      have he1 := end_bd q1 ok1
      obtain ⟨e1, e2, e3, e4⟩ := he1
      have r1 := ok1.rd1
      have hnx1 := ok1.nxm
      have hE : endZ (putQ q1 a1 s2 b3) = endZ q1 := by unfold endZ; rw [htw.1, htw.2]
      have hD : decide (q1.nx < (putQ q1 a1 s2 b3).nx) = false := by rw [htw.1]; simp
      generalize hq2 : putQ q1 a1 s2 b3 = q2 at *
      have HN := Lib.hid htw.1
      have HO := Lib.hid htw.2
      have HR := Lib.hid hrd
      have HE := Lib.hid hE
      have HD := Lib.hid hD
      have HQ := Lib.hid hq2
      clear htw hrd hE hD hq2
      go_wp2_with fail
      refine (Next_any _ q1 _ hQ5).mono ?_
      rintro e w6 ⟨rfl, rfl⟩
      go_wp2_with fail
      refine (Ready_any _ q1 _ hQ5 ok1).mono ?_
      rintro e w6 ⟨rfl, hB6⟩
      have hQ6 : InqAt w6 w.heap.size q1 := hQ5.kept hB6
      have hB7 := below_c hB5 hB6
      go_wp2_with fail
      refine (Over_any _ q1 _ hQ6).mono ?_
      rintro e w7 ⟨rfl, rfl⟩
      go_wp2_with fail
      refine (Put_all _ q1 _ _ _ _ hQ6 ok1 ha1 ha1' hs2).mono ?_
      rintro e w8 ⟨rfl, hQ8, hO8⟩
      rw [HQ.out] at hQ8 ⊢
      rw [HD.out]
      have hB8 := below_only hB7 hO8 (Nat.le_refl _)
      go_wp2_with fail
      refine (Next_any _ q2 _ hQ8).mono ?_
      rintro e w9 ⟨rfl, rfl⟩
      rw [HN.out]
      go_wp2_with fail
      refine (Ready_any _ q2 _ hQ8 ok2).mono ?_
      rintro e w9 ⟨rfl, hB9⟩
      rw [HE.out, HR.out]
      have hQ9 : InqAt w9 w.heap.size q2 := hQ8.kept hB9
      have hB10 := below_c hB8 hB9
      go_wp2_with fail
      refine (Over_any _ q2 _ hQ9).mono ?_
      rintro e w10 ⟨rfl, rfl⟩
      rw [HO.out]
      go_wp2_with fail
      refine (Window_any _ q2 _ hQ9 ok2).mono ?_
      rintro e w11 ⟨rfl, hB11⟩
      rw [HE.out, HR.out]
      go_wp2_with fail
      go_ret
      exact ⟨rfl, below_c hB10 hB11⟩
end Go.Proofs.Ytgdfjkdcdfmifaa
