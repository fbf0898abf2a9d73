/- The contract of InqStream's put. -/
import Derived.Test.YtgdfjkdcdfmifaaInqF
import Derived.Test.YtgdfjkdcdfmifaaInqH
import Derived.StillTailTactics
namespace Go.Proofs.Ytgdfjkdcdfmifaa
open Go.RowKit
set_option linter.unusedVariables false

/-- the boxes that put holds: the text, the queue, fin -/
structure Boxes (W : World) (bt bq bf g : Nat) (T : ByteArray) (fin : Bool) : Prop where
  t : W.cell? ⟨bt, 0, none⟩ = some (.string T)
  q : W.cell? ⟨bq, 0, none⟩ = some (.pointer (some ⟨g, 0, none⟩))
  f : W.cell? ⟨bf, 0, none⟩ = some (.bool fin)
theorem Boxes.kept {W W' : World} {bt bq bf g : Nat} {T : ByteArray} {fin : Bool} (h : Boxes W bt bq bf g T fin) (hb : Below W.heap.size W W') : Boxes W' bt bq bf g T fin := ⟨keep_cell hb h.t, keep_cell hb h.q, keep_cell hb h.f⟩
theorem Boxes.grown {W W' : World} {bt bq bf g : Nat} {T : ByteArray} {fin : Bool} (h : Boxes W bt bq bf g T fin) (hb : W.grownBy W' (some g)) (h1 : bt ≠ g) (h2 : bq ≠ g) (h3 : bf ≠ g) : Boxes W' bt bq bf g T fin :=
  ⟨hb.cell h.t (by intro e; injection e with e; exact h1 e), hb.cell h.q (by intro e; injection e with e; exact h2 e), hb.cell h.f (by intro e; injection e with e; exact h3 e)⟩
set_option maxRecDepth 100000 in
set_option maxHeartbeats 4000000 in
theorem put_any (bt bq bf g : Nat) (T : ByteArray) (fin : Bool) (q : IQ) (n a many : Nat) (w : World) (hX : Boxes w bt bq bf g T fin) (h1 : bt ≠ g) (h2 : bq ≠ g) (h3 : bf ≠ g) (hQ : InqAt w g q) (hG : Good T fin q n)
    (hn : n ≤ 140737488351232) (hT : T.size ≤ 140737488351232) (ha : a ≤ T.size) (hm : many ≤ 2000) (t : Nat) (ht : t = min T.size (a + many)) :
    Calls Try.prog 38 #[.int .i64 a, .int .i64 many, .pointer (some ⟨bt, 0, none⟩), .pointer (some ⟨bq, 0, none⟩), .pointer (some ⟨bf, 0, none⟩)] w fun e w' => e = .returned (.bool true) ∧ InqAt w' g (putQ q (a + 1) (T.extract a t) (fin && (t == T.size))) ∧ w.grownBy w' (some g) := by
  have ht1 : t ≤ T.size := by omega
  have ht2 : a ≤ t := by omega
  have hE : (t : Int) = if (a : Int) + many < T.size then (a : Int) + many else T.size := by split <;> omega
  have HE := Lib.hid hE
  clear hE ht
  have b1 := hX.t
  have b2 := hX.q
  have b3 := hX.f
  have l1 := block_of_cell b1
  have l2 := block_of_cell b2
  have l3 := block_of_cell b3
  simp only at l1 l2 l3
  go_enter Try.func38, Try.ntmps38
  go_upto_region 1 with (fail)
  go_cut [8] (fun s wc => s = .int .i64 (t : Int) ∧ wc = w)
  case first =>
    go_wp2_with fail
    all_goals
      go_meet
      case rel => exact ⟨congrArg _ (by have := HE.out; split at this <;> omega), rfl⟩
  case rest =>
    obtain ⟨rfl, rfl⟩ := hcut
    have hlt := hQ.lt
    have hed := end_bd q hG.ok
    obtain ⟨e1, e2, e3, e4⟩ := hed
    have hnm := hG.ok.nxm
    have hn1 : 1 ≤ q.nx := by have := hG.ok.rd1; unfold endZ at e1; split at e1 <;> omega
    have hgp := good_put hG hn (piece_extract T a t ht2 ht1)
    have hmono := put_nx hG.ok ((a : Int) + 1) (T.extract a t) (fin && (t == T.size))
    have hrd := put_rd q ((a : Int) + 1) (T.extract a t) (fin && (t == T.size))
    have hlat : ∀ u : Later wc, InqAt u.now g q := fun u => hQ.kept u.still
    have HL := Lib.hid hlat
    have hok := hG.ok
    clear hlat
    go_wp2_with fail
    refine wp_region_later (by kernel_rfl) (by kernel_rfl) (fun hlc => ?_)
    repeat (go_big_quiet_step (first | (go_at_call 34; exact later_same (Next_any g q _ (HL.out _))) | (go_at_call 35; exact later_call (Window_any g q _ (HL.out _) hok))))
    refine wpQuiet_nil ?_
    intro w2 hb2
    clear hlc HL b1 b2 b3 l1 l2 l3
    have hX2 := hX.kept hb2
    have hQ2 : InqAt w2 g q := hQ.kept hb2
    have b1 := hX2.t
    have b2 := hX2.q
    have b3 := hX2.f
    have l1 := block_of_cell b1
    have l2 := block_of_cell b2
    have l3 := block_of_cell b3
    simp only at l1 l2 l3
    (generalize hED : q.nx + (2048 - (endZ q - q.rd)) = ED)
    have HED := Lib.hid hED
    clear hED
    have hsz : (T.extract a t).size ≤ 140737488351232 := by rw [ByteArray.size_extract]; omega
    have hput := fun (W : World) (h : InqAt W g q) => Put_all g q ((a : Int) + 1) (T.extract a t) (fin && (t == T.size)) W h hok (by omega) (by omega) hsz
    have HPUT := Lib.hid hput
    clear hput
    (generalize hQ1 : putQ q ((a : Int) + 1) (T.extract a t) (fin && (t == T.size)) = q1 at *)
    have a0 : (0 : Int) ≤ (a : Int) := by omega
    have a1 : (a : Int) ≤ (t : Int) := by omega
    have a2 : (t : Int) ≤ (T.size : Int) := by omega
    have hBX := hb2
    go_upto_region 3 with (fail)
    go_cut [11] (fun s W => s = .bool (decide (q.nx < q1.nx)) ∧ InqAt W g q1 ∧ w2.grownBy W (some g))
    case first =>
      have hw1 : IntKind.i64.wrap ((a : Int) + 1) = (a : Int) + 1 := IntWalk.i64_in _ (by omega)
      have hQ3 : InqAt w2.drew g q := At.drew hQ2
      have hO3 := only_drew (only_refl w2 (some g))
      cases fin
      · go_still_tail 14, (by kernel_rfl)
        change wpList _ _ _ _ _ w2.drew
        generalize w2.drew = w3 at *
        go_wp2_with (go_at_call 33; refine (HPUT.out _ hQ3).mono ?_; rintro e w4 ⟨rfl, hQ4, hO4⟩)
        go_meet
        case rel => exact ⟨rfl, hQ4, only_trans hO3 hO4⟩
      · by_cases htt : t = T.size
        · have hb : ((t : Int) == (T.size : Int)) = true := by simp; omega
          have hb2 : (t == T.size) = true := by simpa using htt
          rw [hb2] at HPUT
          clear htt hb2
          go_still_tail 14, (by kernel_rfl)
          change wpList _ _ _ _ _ w2.drew
          generalize w2.drew = w3 at *
          go_wp2_with (go_at_call 33; refine (HPUT.out _ hQ3).mono ?_; rintro e w4 ⟨rfl, hQ4, hO4⟩)
          go_meet
          case rel => exact ⟨rfl, hQ4, only_trans hO3 hO4⟩
        · have hb : ((t : Int) == (T.size : Int)) = false := by simp; omega
          have hb2 : (t == T.size) = false := by simpa using htt
          rw [hb2] at HPUT
          clear htt hb2
          go_still_tail 14, (by kernel_rfl)
          change wpList _ _ _ _ _ w2.drew
          generalize w2.drew = w3 at *
          go_wp2_with (go_at_call 33; refine (HPUT.out _ hQ3).mono ?_; rintro e w4 ⟨rfl, hQ4, hO4⟩)
          go_meet
          case rel => exact ⟨rfl, hQ4, only_trans hO3 hO4⟩
    case rest =>
      obtain ⟨rfl, hQ3, hO3⟩ := hcut
      have hX3 := hX2.grown hO3 h1 h2 h3
      clear b1 b2 b3 l1 l2 l3
      have b1 := hX3.t
      have b2 := hX3.q
      have b3 := hX3.f
      have l1 := block_of_cell b1
      have l2 := block_of_cell b2
      have l3 := block_of_cell b3
      simp only at l1 l2 l3
      have hok1 := hgp.ok
      have hed1 := end_bd q1 hok1
      obtain ⟨f1, f2, f3, f4⟩ := hed1
      have hnm1 := hok1.nxm
      have d1 : decide (q1.nx < q.nx) = false := by simp; omega
      have d3 : decide (q1.nx + (2048 - (endZ q1 - q1.rd)) < ED) = false := by
        rw [← HED.out]
        simp only [decide_eq_false_iff_not]
        cases ho : q.over
        · have h4 := end_open ho
          cases ho1 : q1.over
          · have h5 := end_open ho1
            omega
          · have h5 := end_over ho1
            omega
        · rw [putQ_idle _ _ (.inr (.inr ho))] at hQ1
          rw [← hQ1]
          omega
      have d4 : decide (2048 - (endZ q1 - q1.rd) < 0) = false := by simp; omega
      have d5 : decide ((2048 : Int) < 2048 - (endZ q1 - q1.rd)) = false := by simp; omega
      have hlat : ∀ u : Later wc, InqAt u.now g q1 := fun u => hQ3.kept u.still
      have HL := Lib.hid hlat
      have HQ1 := Lib.hid hQ1
      have HRD := Lib.hid hrd
      clear hlat hQ1 hrd
      have hfin2 := only_trans (only_below (only_refl _ _) hBX) hO3
      go_upto_region 4 with (fail)
      refine wp_region_later (by kernel_rfl) (by kernel_rfl) (fun hlc => ?_)
      repeat (go_big_quiet_step (first | (go_at_call 34; exact later_same (Next_any g q1 _ (HL.out _))) | (go_at_call 35; exact later_call (Window_any g q1 _ (HL.out _) hok1))))
      refine wpQuiet_nil ?_
      intro w9 hb9
      clear hlc
      go_wp2_with fail
      go_ret
      refine ⟨rfl, ?_, ?_⟩
      · rw [HQ1.out]; exact hQ3.kept hb9
      · exact only_below hfin2 hb9
end Go.Proofs.Ytgdfjkdcdfmifaa
