/- poll.Poller: New, at. -/
import Derived.Test.YtgdfjkdcdfmifaaPolS
import Derived.Test.YtgdfjkdcdfmifaaHand
import Derived.Test.YtgdfjkdcdfmifaaOrd
namespace Go.Proofs.Ytgdfjkdcdfmifaa
open Go.RowKit Go.Lib
set_option linter.unusedVariables false
set_option linter.unusedSimpArgs false

theorem newpoll_any (w : World) : Calls Try.prog 40 #[] w fun e w' => ∃ g, e = .returned (.pointer (some ⟨g, 0, none⟩)) ∧ Mem w w' (pollL g (.slice none 0 0) []) := by
  have hM := Mem.nil w
  go_enter Try.func40, Try.ntmps40
  go_wp2_with (first
    | go_skip
    | ((with_reducible refine at_box_ ?_); refine wpList_box_mem rfl _ _ rfl _ rfl hM ?_; clear hM; intro gb W hM; first | (simp only [List.nil_append] at hM) | (simp only [List.cons_append, List.nil_append] at hM)))
  go_ret
  exact ⟨gb, rfl, hM.rowNil 1 fPtr⟩
theorem atcl_any (gc : Nat) (x : KW) (n : Int) (W : World) (hA : At W x.g 111 (cW x)) (hB : At W gc 3 [.int .i64 n]) :
    Calls Try.prog 59 #[fPtr1 x, .pointer (some ⟨gc, 0, none⟩)] W fun e w' => e = .returned (.bool (decide (x.fd = n))) ∧ Below W.heap.size W w' := by
  obtain ⟨g, fd, mask, ready, edge, fresh⟩ := x
  have c0 := hA.cell
  have c1 := hB.cell
  have l0 := hA.lt
  have l1 := hB.lt
  simp only [cW] at c0
  clear hA hB
  unfold fPtr1
  have hr : decide (fd = n) = (fd == n) := rfl
  rw [hr]
  go_enter Try.func59, Try.ntmps59
  go_wp2_with fail
  refine wp_region_later (by kernel_rfl) (by kernel_rfl) (fun hlc => ?_)
  repeat (go_big_quiet_step (fail))
  refine wpQuiet_nil ?_
  intro wq hbq
  clear hlc
  go_wp2_with fail
  go_ret
  exact ⟨rfl, hbq⟩
set_option maxRecDepth 100000 in
theorem at_any (g : Nat) (v : Value) (ws : List KW) (n : Int) (w : World) (hM0 : PlPre w w g v ws v ws) (hn : ws.length ≤ 100000) :
    Calls Try.prog 51 #[.pointer (some ⟨g, 0, none⟩), .int .i64 n] w fun e w' => e = .returned (.int .i64 (idxOf (fun x => decide (x.fd = n)) ws)) ∧ Below w.heap.size w w' := by
  have hM := Mem.nil w
  have HW := Lib.hid (show Win w 0 1 v ws.length (ws.flatMap fPtr) from hM0.row (f := fPtr) (rs := ws) 1 rfl)
  have hA : At w g 108 [v] := hM0.at_ 0 rfl
  have hc := hA.cell
  have hlt := hA.lt
  have HWA := Lib.hid (fun (x : KW) (hx : x ∈ ws) => show At w x.g 111 (cW x) from by
    obtain ⟨k, hk⟩ := List.getElem?_of_mem hx
    exact hM0.at_ (2 + k) (poll_at hk))
  clear hA hM0
  obtain ⟨A, cap, rfl⟩ := HW.out.form
  go_enter Try.func51, Try.ntmps51
  go_upto_region 1 with         (first
          | go_skip
          | ((with_reducible refine at_box_ ?_); refine wpList_box_mem rfl _ _ rfl _ rfl hM ?_; clear hM; intro gb W hM; first | (simp only [List.nil_append] at hM) | (simp only [List.cons_append, List.nil_append] at hM)))
  have hc1 := fun i => (hM.b.cell (p := ⟨g, i, none⟩) hlt).trans (hc i)
  clear hc
  have HI := Lib.hid (idx_watch (.slice A ws.length cap) (.pointer (some ⟨gb, 0, none⟩)) ws (fun x => decide (x.fd = n)) W (HW.out.kept hM.b) hn (fun W1 x hx hB => atcl_any gb x n W1 (((HWA.out x hx).kept hM.b).kept hB) ((hM.kept hB).at_ 0 rfl)))
  go_wp2_with (go_at_call 58; refine HI.out.mono ?_; rintro x W1 ⟨rfl, hB⟩)
  go_ret
  exact ⟨rfl, below_c hM.b hB⟩
end Go.Proofs.Ytgdfjkdcdfmifaa
