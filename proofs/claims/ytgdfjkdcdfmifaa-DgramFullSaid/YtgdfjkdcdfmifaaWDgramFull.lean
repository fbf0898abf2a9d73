/- The walk of DgramFull: it returns true. -/
import Derived.Test.YtgdfjkdcdfmifaaDgramQ
namespace Go.Proofs.Ytgdfjkdcdfmifaa
open Go.RowKit
set_option linter.unusedVariables false

set_option maxRecDepth 100000 in
set_option maxHeartbeats 4000000 in
theorem full_walk (A0 : Option Addr) (n0 c0 : Nat) (css0 : Nat → List Value) (G : Gm) (w : World) (hR0 : Rows_ w A0 n0 ksGram css0) (hl0 : n0 ≤ 140737488351232) (hG : G.b.size ≤ 9223372036854775807) :
    Calls Try.prog 5 #[.slice A0 n0 c0, .agg (gcells G).toArray] w fun e w' => e = .returned (.bool true) ∧ Below w.heap.size w w' := by
  have hiG : (Try.prog.info? 36).map (·.size) = some (gcells G).length := info_Gram
  have hGs : (gcells G).toArray.size = 5 := rfl
  have hPR := Lib.hid (fun (q n : Nat) (lost : Int) (W : World) (h : QGood W q n lost) (hn : n < 16) => Put_room q n lost G W h hn hG)
  have hPF := Lib.hid (fun (q : Nat) (lost : Int) (W : World) (h : QGood W q 16 lost) (h1 : 0 ≤ lost) (h2 : lost ≤ 4611686018427387904) => Put_full q lost G W h h1 h2)
  generalize gcells G = cG at *
  go_enter Try.func5, Try.ntmps5
  go_wp2_with fail
  refine calls_gen (fun W => Below w.heap.size w W ∧ At W w.heap.size 36 cG ∧ w.heap.size < W.heap.size) ⟨below_ca (Below.refl _ _) _, At.new_ _ _ _, by simp⟩ ?_
  rintro W0 ⟨hB0, hG0, hz0⟩
  refine (dgNew_good _).mono ?_
  rintro e W1 ⟨rfl, hQ1, hB1⟩
  have hG1 := hG0.kept hB1
  have hB1' := below_c hB0 hB1
  generalize W0.heap.size = q at *
  clear hB0 hB1 hG0
  go_wp2_with fail
  go_loopw [16] (fun i wr => ∃ (k n : Nat) (lost : Int), k ≤ n0 ∧ i = .int .i64 k ∧ QGood wr q n lost ∧ 0 ≤ lost ∧ lost ≤ k ∧ At wr w.heap.size 36 cG ∧ Below w.heap.size w wr) (fun i _ => n0 - (intOf i).toNat)
  case atStart => exact ⟨0, 0, 0, by omega, rfl, hQ1, by omega, by omega, hG1, hB1'⟩
  case round =>
    obtain ⟨k, n, lost, hk, rfl, hQk, hlo, hlk, hGk, hBk⟩ := hrel
    by_cases hlt : k < n0
    · obtain ⟨b, off, hA, hrg⟩ := hR0.at_ k hlt
      subst hA
      have hrg : wr.rangeAt b (off + k * 5) (css0 k) := range_kept hrg hBk
      have hokx := hR0.ok k hlt
      have hlen : (css0 k).length = 5 := okAll_len hokx
      have hone := all_oneCell_toArray (okAll_one hokx)
      have hi1 : (Try.prog.info? 36).map (·.size) = some (css0 k).length := by rw [hlen]; exact info_Gram
      have hi2 : (Try.prog.info? 36).map (·.size) = some (css0 k).toArray.size := by rw [List.size_toArray]; exact hi1
      go_upto_region 7 with (first | (refine wpList_load_mid rfl 36 (.tmp 18) rfl b (off + k * 5) rfl (css0 k) _ hrg Try.underlying36 rfl hi1 ?_) | (refine wpList_store_mid rfl 36 (.tmp 7) (.tmp 19) rfl _ 0 (css0 k).toArray rfl rfl (there_new _ _ _ _ (by rw [List.size_toArray, hlen]; exact Nat.le_refl _)) hi2 hone ?_))
      refine wp_gen (fun W => Below wr.heap.size wr W ∧ W.rangeAt wr.heap.size 0 (css0 k) ∧ wr.heap.size < W.heap.size) (boxed _ _ _ _ (by rw [hlen]; exact Nat.le_refl _)) ?_
      rintro W2 ⟨hB2, hx2, hz2⟩
      obtain ⟨x, hx, hxb⟩ := gram_of hokx
      have hQ2 := hQk.kept hB2
      have hG2 := hGk.kept hB2
      have hW2 := below_c hBk hB2
      go_wp2_with (refine wpList_load_mid rfl 36 (.tmp 7) rfl wr.heap.size 0 rfl (css0 k) _ hx2 Try.underlying36 rfl hi1 ?_)
      have hqw : q ≠ w.heap.size := by omega
      by_cases hn : n = 16
      · subst hn
        refine (Put_full _ _ _ _ hQ2 hlo (by omega)).mono ?_
        rintro e w3 ⟨rfl, hQ3, hO3⟩
        go_wp2_with fail
        go_roundw
        case rel => exact ⟨k + 1, 16, lost + 1, by omega, by go_num, hQ3, by omega, by omega, hG2.grown hO3 (by intro e; injection e with e; omega), below_only hW2 hO3 (by omega)⟩
        case measure => simp [intOf]; omega
      · refine (Put_room _ _ _ _ _ hQ2 (by have := hQ2.le; omega) hxb).mono ?_
        rintro e w3 ⟨rfl, hQ3, hO3⟩
        go_wp2_with fail
        go_roundw
        case rel => exact ⟨k + 1, n + 1, lost, by omega, by go_num, hQ3, by omega, by omega, hG2.grown hO3 (by intro e; injection e with e; omega), below_only hW2 hO3 (by omega)⟩
        case measure => simp [intOf]; omega
    · have hle := hQk.le
      have hL : lost ≤ 140737488351232 := by omega
      clear hlk
      go_wp2_with fail
      go_loopg [] (16 - n) (fun j wr => ∃ m, j = 16 - m ∧ QGood wr q m lost ∧ At wr w.heap.size 36 cG ∧ Below w.heap.size w wr)
      case atStart => exact ⟨n, rfl, hQk, hGk, hBk⟩
      case round =>
        obtain ⟨m, rfl, hQm, hGm, hBm⟩ := hrel
        have hml := hQm.le
        by_cases hm : m < 16
        · go_wp2_with fail
          refine (Waits_good _ _ _ _ hQm).mono ?_
          rintro e w3 ⟨rfl, rfl⟩
          go_wp2_with (refine wpList_load_mid rfl 36 (.tmp 3) rfl w.heap.size 0 rfl cG _ (hGm).range Try.underlying36 rfl hiG ?_)
          refine (hPR.out _ _ _ _ hQm hm).mono ?_
          rintro e w4 ⟨rfl, hQ4, hO4⟩
          go_wp2_with fail
          go_roundg (16 - (m + 1))
          case measure => omega
          case rel => exact ⟨m + 1, rfl, hQ4, hGm.grown hO4 (by intro e; injection e with e; omega), below_only hBm hO4 (by omega)⟩
        · obtain rfl : m = 16 := by omega
          clear hml hm
          go_wp2_with fail
          refine (Waits_good _ _ _ _ hQm).mono ?_
          rintro e w3 ⟨rfl, rfl⟩
          go_wp2_with (refine wpList_load_mid rfl 36 (.tmp 3) rfl w.heap.size 0 rfl cG _ (hGm).range Try.underlying36 rfl hiG ?_)
          refine (hPF.out _ _ _ hQm hlo (by omega)).mono ?_
          rintro e w4 ⟨rfl, hQ4, hO4⟩
          have hG4 := hGm.grown hO4 (by intro e; injection e with e; omega)
          have hB4 := below_only hBm hO4 (by omega)
          go_wp2_with fail
          refine (Waits_good _ _ _ _ hQ4).mono ?_
          rintro e w5 ⟨rfl, rfl⟩
          go_wp2_with fail
          refine (Take_good _ _ _ _ _ hQ4 (by omega) (by omega) (by omega)).mono ?_
          rintro e w6 ⟨x6, k6, rfl, hQ6, hO6⟩
          have hG6 := hG4.grown hO6 (by intro e; injection e with e; omega)
          have hB6 := below_only hB4 hO6 (by omega)
          unfold gval gcells
          go_upto_region 15 with (fail)
          refine wp_gen (fun W => Below w6.heap.size w6 W) ?_ ?_
          · repeat' (first | with_reducible exact Below.refl _ _ | with_reducible assumption | with_reducible refine Below.drew ?_ | with_reducible refine below_dn ?_ _ | with_reducible refine below_ca ?_ _ | with_reducible refine Below.setCell ?_ ?_ _ | (refine below_c ?_ (by with_reducible assumption)) | (simp <;> omega) | omega)
          intro w7 hB7
          have hQ7 := hQ6.kept hB7
          have hG7 := hG6.kept hB7
          have hB7' := below_c hB6 hB7
          go_wp2_with (refine wpList_load_g rfl 36 (.tmp 3) rfl w.heap.size 0 rfl cG _ (hG7).range Try.underlying36 rfl hiG ?_)
          refine (hPR.out _ _ _ _ hQ7 (by omega)).mono ?_
          rintro e w8 ⟨rfl, hQ8, hO8⟩
          have hG8 := hG7.grown hO8 (by intro e; injection e with e; omega)
          have hB8 := below_only hB7' hO8 (by omega)
          go_wp2_with (refine wpList_load_g rfl 36 (.tmp 3) rfl w.heap.size 0 rfl cG _ (hG8).range Try.underlying36 rfl hiG ?_)
          refine (hPF.out _ _ _ hQ8 (by omega) (by omega)).mono ?_
          rintro e w9 ⟨rfl, hQ9, hO9⟩
          have hB9 := below_only hB8 hO9 (by omega)
          go_wp2_with fail
          refine (Waits_good _ _ _ _ hQ9).mono ?_
          rintro e w10 ⟨rfl, rfl⟩
          go_wp2_with fail
          go_ret
          exact ⟨rfl, hB9⟩
theorem w_DgramFull (A0 : Option Addr) (n0 c0 : Nat) (css0 : Nat → List Value) (a1a : Int) (a1b : Int) (a1c : Int) (a1d : Int) (s1e : ByteArray) (w : World) (hR0 : Rows_ w A0 n0 ksGram css0) (hl0 : n0 ≤ 140737488351232) (ha1a : 0 ≤ a1a) (ha1a' : a1a ≤ 4294967295) (ha1b : -9223372036854775808 ≤ a1b) (ha1b' : a1b ≤ 9223372036854775807) (ha1c : 0 ≤ a1c) (ha1c' : a1c ≤ 4294967295) (ha1d : -9223372036854775808 ≤ a1d) (ha1d' : a1d ≤ 9223372036854775807) (hs1e : s1e.size ≤ 9223372036854775807) :
    Calls Try.prog 5 #[.slice A0 n0 c0, .agg #[.int .u32 a1a, .int .i64 a1b, .int .u32 a1c, .int .i64 a1d, .string s1e]] w fun e w' => e = .returned (.bool true) ∧ Below w.heap.size w w' :=
  full_walk A0 n0 c0 css0 ⟨a1a, a1b, a1c, a1d, s1e⟩ w hR0 hl0 hs1e
end Go.Proofs.Ytgdfjkdcdfmifaa
