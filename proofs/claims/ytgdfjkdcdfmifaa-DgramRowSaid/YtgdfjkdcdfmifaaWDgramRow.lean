/- The walk of DgramRow: it returns true. -/
import Derived.Test.YtgdfjkdcdfmifaaDgramR
namespace Go.Proofs.Ytgdfjkdcdfmifaa
open Go.RowKit
set_option linter.unusedVariables false

set_option maxRecDepth 100000 in
set_option maxHeartbeats 4000000 in
theorem w_DgramRow (A0 : Option Addr) (n0 c0 : Nat) (css0 : Nat → List Value) (w : World) (hR0 : Rows_ w A0 n0 ksStep css0) (hl0 : n0 ≤ 140737488351232) :
    Calls Try.prog 6 #[.slice A0 n0 c0] w fun e w' => e = .returned (.bool true) ∧ Below w.heap.size w w' := by
  go_enter Try.func6, Try.ntmps6
  go_wp2_with fail
  refine (dgNew_row _).mono ?_
  rintro e W1 ⟨rfl, hQ1, hB1⟩
  have hz1 := hQ1.lt
  go_wp2_with fail
  go_loopw [18, 4, 5] (fun i v l wr => ∃ (k : Nat) (row : List Gm) (lost : Int), k ≤ n0 ∧ i = .int .i64 k ∧ l = .int .i64 lost ∧ Win wr (w.heap.size + 1) 5 v row.length (row.flatMap gcells) ∧ QRow wr w.heap.size row lost ∧ 0 ≤ lost ∧ lost ≤ k ∧ Below w.heap.size w wr) (fun i v l _ => n0 - (intOf i).toNat)
  case atStart => exact ⟨0, [], 0, by omega, rfl, rfl, Win.nil _ _ _, hQ1, by omega, by omega, hB1⟩
  case round =>
    obtain ⟨k, row, lost, hk, rfl, rfl, hWk, hQk, hlo, hlk, hBk⟩ := hrel
    obtain ⟨Aw, cw, rfl⟩ := hWk.form
    by_cases hlt : k < n0
    · have hle := hQk.le
      obtain ⟨b, off, hA, hrg⟩ := hR0.at_ k hlt
      subst hA
      have hrg : wr.rangeAt b (off + k * 45) (css0 k) := range_kept hrg hBk
      have hokx := hR0.ok k hlt
      have hlen : (css0 k).length = 45 := okAll_len hokx
      have hone := all_oneCell_toArray (okAll_one hokx)
      have hi1 : (Try.prog.info? 40).map (·.size) = some (css0 k).length := by rw [hlen]; exact info_Step
      have hi2 : (Try.prog.info? 40).map (·.size) = some (css0 k).toArray.size := by rw [List.size_toArray]; exact hi1
      go_upto_region 9 with (first | (refine wpList_load_mid rfl 40 (.tmp 20) rfl b (off + k * 45) rfl (css0 k) _ hrg Try.underlying40 rfl hi1 ?_) | (refine wpList_store_mid rfl 40 (.tmp 7) (.tmp 21) rfl _ 0 (css0 k).toArray rfl rfl (there_new _ _ _ _ (by rw [List.size_toArray, hlen]; exact Nat.le_refl _)) hi2 hone ?_))
      refine wp_gen (fun W => Below wr.heap.size wr W ∧ W.rangeAt wr.heap.size 0 (css0 k) ∧ wr.heap.size < W.heap.size) (boxed _ _ _ _ (by rw [hlen]; exact Nat.le_refl _)) ?_
      rintro W2 ⟨hB2, hx2, hz2⟩
      obtain ⟨kd, hkd, hkd1, hkd2⟩ := step_int hokx 0 rfl
      obtain ⟨xa, hxa, hxa1, hxa2⟩ := step_int hokx 1 rfl
      obtain ⟨x, hxm, hxb⟩ := step_gram hokx
      have hQ2 := hQk.kept hB2
      have hV2 := hWk.kept hB2
      have hW2 := below_c hBk hB2
      have hqw := hQk.lt
      go_wp2_with (refine wpList_load_mid rfl 40 (.tmp 7) rfl wr.heap.size 0 rfl (css0 k) _ hx2 Try.underlying40 rfl hi1 ?_)
      refine (Of_any (css0 k) kd 3 _ hkd hkd1 hkd2 (by omega) (by omega)).mono ?_
      rintro e w4 ⟨rfl, hB4⟩
      have hQ4 := hQ2.kept hB4
      have hV4 := hV2.kept hB4
      have hx4 := range_kept hx2 hB4
      have hW4 := below_c hW2 hB4
      by_cases h3 : 0 < kd % 3
      · have hmg : w4.rangeAt wr.heap.size 29 (gcells x) := fun j u hj => by have := hx4 _ _ (hxm j u hj); rwa [Nat.zero_add] at this
        go_wp2_with (refine wpList_load_mid rfl 36 (.tmp 26) rfl wr.heap.size 29 rfl (gcells x) _ hmg Try.underlying36 rfl info_Gram ?_)
        by_cases hn : row.length = 16
        · refine (Put_row_no _ _ _ x _ hQ4 hn hlo (by omega)).mono ?_
          rintro e w5 ⟨rfl, hQ5, hO5⟩
          go_wp2_with fail
          go_roundw
          case rel => exact ⟨k + 1, row, lost + 1, by omega, by go_num, by go_num, (by rw [← hn]; exact hV4.grown hO5 (by intro g hg; have := (hV4.lt g hg).1; intro e; injection e; omega)), hQ5, by omega, by omega, below_only hW4 hO5 (Nat.le_refl _)⟩
          case measure => simp [intOf]; omega
        · refine (Put_row_yes _ _ _ x _ hQ4 (by omega) hxb).mono ?_
          rintro e w5 ⟨rfl, hQ5, hO5⟩
          have hgl : (gcells x).length = 5 := gcells_len x
          have hV5 := hV4.grown hO5 (by intro g hg; have := (hV4.lt g hg).1; intro e; injection e; omega)
          have hx5 : w5.rangeAt wr.heap.size 29 (gcells x) := fun j u hj => hO5.cell (hmg j u hj) (by intro e; injection e with e; simp at e; omega)
          go_wp2_with (first
            | (refine wpList_load_mid rfl 36 (.tmp 31) rfl wr.heap.size 29 rfl (gcells x) _ hx5 Try.underlying36 rfl info_Gram ?_)
            | (at_builtin; obtain ⟨iG, zG, iG0, iG1, iG2, iG3, iG4⟩ := elem_Gram; refine wpList_append_win rfl _ _ 47 rfl (w.heap.size + 1) 36 iG zG 5 48 Try.underlying47 iG0 iG1 iG2 iG3 iG4 (by decide) _ row.length (row.flatMap gcells) rfl (hV5.alloc _) ⟨w5.heap.size, 0, none⟩ 1 1 (gcells x) rfl rfl ?news ?one (by decide) ?mx ?byt ?ba ?_))
          case news => exact At.news (At.new_ w5 36 (gcells x))
          case one => exact gcells_one x
          case mx => simp only [maxLen]; omega
          case byt => omega
          case ba => have := hQ5.lt; simp; omega
          intro v7 w7 hV7 hO7 hat7
          obtain ⟨A7, c7, rfl⟩ := hV7.form
          have hB7 : Below w.heap.size w w7 := (below_ca (below_only hW4 hO5 (Nat.le_refl _)) _).grown hO7 (by have := hQ5.lt; simp; omega) (fun j hj => by have := (hV5.lt j hj).1; omega)
          have hQ7 : QRow w7 w.heap.size (row ++ [x]) lost := (hQ5.kept (below_ca (Below.refl _ _) _)).grown hO7 (by intro e; have := (hV5.lt _ e.symm).1; omega)
          have t1 : (16 < row.length + 1) = False := by simp; omega
          go_wp2_with fail
          go_roundw
          case rel => exact ⟨k + 1, row ++ [x], lost, by omega, by go_num, rfl, by simpa using hV7, hQ7, by omega, by omega, hB7⟩
          case measure => simp [intOf]; omega
      · have hc : w4.cell? ⟨wr.heap.size, 1, none⟩ = some (.int .i64 xa) := by simpa using hx4 1 _ hxa
        go_wp2_with fail
        cases row with
        | nil =>
          refine (Take_row_no _ _ _ _ hQ4).mono ?_
          rintro e w5 ⟨rfl, hB5⟩
          unfold gval gcells zeroG
          go_wp2_with fail
          go_roundw
          case rel => exact ⟨k + 1, [], lost, by omega, by go_num, rfl, (hV4.kept hB5).alloc _, (hQ4.kept hB5).kept (below_ca (Below.refl _ _) _), by omega, by omega, below_ca (below_c hW4 hB5) _⟩
          case measure => simp [intOf]; omega
        | cons x0 row =>
          refine (Take_row_yes _ _ _ _ _ _ hQ4 hxa1 hxa2).mono ?_
          rintro e w5 ⟨rfl, hQ5, hO5⟩
          have hW5 := below_only hW4 hO5 (Nat.le_refl _)
          have hV5 := hV4.grown hO5 (by intro g hg; have := (hV4.lt g hg).1; intro e; injection e; omega)
          have hc5 : w5.cell? ⟨wr.heap.size, 1, none⟩ = some (.int .i64 xa) := hO5.cell hc (by intro e; injection e with e; simp at e; omega)
          obtain ⟨gw, ow, cw', hvw, hWA⟩ := hV5.pos (by simp)
          cases hvw
          have hhd : w5.rangeAt gw ow (gcells x0) := WinAt.head (l := row.flatMap gcells) (by simpa using hWA)
          have hgs : w.heap.size < gw := hWA.ge
          have hgw5 : gw < w5.heap.size := hWA.lt
          have hrl : (x0 :: row).length = row.length + 1 := rfl
          rw [hrl] at *
          obtain ⟨K, hK, hKl, hKv⟩ := cut_is x0 xa
          have hgv : gval (cutG x0 xa) = .agg #[.int .u32 x0.fa, .int .i64 x0.fp, .int .u32 x0.ta, .int .i64 x0.tp, .string (x0.b.extract 0 K)] := by rw [hK]; rfl
          rw [hgv]
          clear hgv hK
          go_upto_region 17 with (fail)
          refine wp_gen (fun W => Below w5.heap.size w5 W ∧ At W w5.heap.size 36 [.int .u32 x0.fa, .int .i64 x0.fp, .int .u32 x0.ta, .int .i64 x0.tp, .string (x0.b.extract 0 K)]) ?_ ?_
          · constructor
            · repeat' (first | with_reducible exact Below.refl _ _ | with_reducible assumption | with_reducible refine Below.drew ?_ | with_reducible refine below_dn ?_ _ | with_reducible refine below_ca ?_ _ | with_reducible refine Below.setCell ?_ ?_ _ | (refine below_c ?_ (by with_reducible assumption)) | (simp <;> omega) | omega)
            · apply At.conv
              case h => repeat' (first | with_reducible exact At.new_ _ _ _ | with_reducible apply At.set_ | with_reducible apply At.drew | with_reducible apply At.drewN | with_reducible apply At.alloc)
              case e => rfl
          rintro w6 ⟨hB6, hG6⟩
          have hhd6 := range_kept hhd hB6
          have hx6 := keep_cell hB6 hc5
          have hhd7 : w6.rangeAt gw ow [.int .u32 x0.fa, .int .i64 x0.fp, .int .u32 x0.ta, .int .i64 x0.tp, .string x0.b] := hhd6
          go_upto_region 21 with (refine wpList_load_mid rfl 36 (.tmp 68) rfl gw ow rfl [.int .u32 x0.fa, .int .i64 x0.fp, .int .u32 x0.ta, .int .i64 x0.tp, .string x0.b] _ hhd7 Try.underlying36 rfl info_Gram ?_)
          refine wp_gen (fun W => Below w6.heap.size w6 W ∧ At W w6.heap.size 36 [.int .u32 x0.fa, .int .i64 x0.fp, .int .u32 x0.ta, .int .i64 x0.tp, .string x0.b]) ?_ ?_
          · constructor
            · repeat' (first | with_reducible exact Below.refl _ _ | with_reducible assumption | with_reducible refine Below.drew ?_ | with_reducible refine below_dn ?_ _ | with_reducible refine below_ca ?_ _ | with_reducible refine Below.setCell ?_ ?_ _ | (refine below_c ?_ (by with_reducible assumption)) | (simp <;> omega) | omega)
            · apply At.conv
              case h => repeat' (first | with_reducible exact At.new_ _ _ _ | with_reducible apply At.set_ | with_reducible apply At.drew | with_reducible apply At.drewN | with_reducible apply At.alloc)
              case e => rfl
          rintro w7 ⟨hB7, hG7⟩
          have hG6' := hG6.kept hB7
          have hx7 := keep_cell hB7 hx6
          go_upto_region 22 with (fail)
          generalize hAw : (if cw = 1 then some (⟨gw, ow, none⟩ : Addr) else some ⟨gw, ow + 5, none⟩) = Aw'
          have z0 := hG7.cell 0
          have z1 := hG7.cell 1
          have z2 := hG7.cell 2
          have z3 := hG7.cell 3
          have z4 := hG7.cell 4
          have y0 := hG6'.cell 0
          have y1 := hG6'.cell 1
          have y2 := hG6'.cell 2
          have y3 := hG6'.cell 3
          have y4 := hG6'.cell 4
          have l6 := hG7.lt
          have l5 := hG6'.lt
          have lx : wr.heap.size < w7.heap.size := block_of_cell hx7
          have hKv' := hKv.symm
          clear hKv
          refine wp_region_later (by kernel_rfl) (by kernel_rfl) (fun hlc => ?_)
          repeat (go_big_quiet_step (fail))
          refine wpQuiet_nil ?_
          intro wq hbq
          clear hlc
          have hB567 : Below w5.heap.size w5 wq := below_c (below_c hB6 hB7) hbq
          have hWin : Win wq (w.heap.size + 1) 5 (.slice Aw' row.length (cw - 1)) row.length (row.flatMap gcells) := by
            rw [← hAw]
            exact (WinAt.cut (x := gcells x0) (by simpa using hWA) (gcells_len x0) (rows_len gcells 5 gcells_len row)).kept hB567
          clear hAw
          go_wp2_with fail
          go_roundw
          case rel => exact ⟨k + 1, row, lost, by omega, by go_num, rfl, hWin, hQ5.kept hB567, by omega, by omega, below_c hW5 hB567⟩
          case measure => simp [intOf]; omega
    · go_wp2_with fail
      refine (Waits_row _ _ _ _ hQk).mono ?_
      rintro e w5 ⟨rfl, rfl⟩
      go_wp2_with fail
      refine (Lost_row _ _ _ _ hQk).mono ?_
      rintro e w5 ⟨rfl, rfl⟩
      go_wp2_with fail
      go_ret
      exact ⟨rfl, hBk⟩
end Go.Proofs.Ytgdfjkdcdfmifaa
