/- Contracts of ports: check. Written by my genbc.py. -/
import Derived.Test.YtppjmhkecogbcaaSlBdel
import Derived.Test.YtppjmhkecogbcaaQMix
namespace Go.Proofs.Ytppjmhkecogbcaa
open Go.RowKit Go.Lib
set_option linter.unusedVariables false
set_option linter.unusedSimpArgs false

set_option maxRecDepth 100000 in
set_option maxHeartbeats 2000000 in
theorem pcheck_0 {pr la lp ra rp ow : Int} {sh : Bool} (w : World) (h0 : pr ≠ 6) (h1 : pr ≠ 17) : Calls Try.prog 29 #[.agg (cBound ⟨pr, la, lp, ra, rp, sh, ow⟩).toArray] w fun e w' => e = .returned (.int .i64 (pCheck ⟨pr, la, lp, ra, rp, sh, ow⟩)) ∧ Below w.heap.size w w' := by
  have hM := Mem.nil w
  have HV := Lib.hid (show pCheck ⟨pr, la, lp, ra, rp, sh, ow⟩ = 1 by
    unfold pCheck
    rw [if_neg (by intro hk; simp [pOk] at hk; try omega)])
  have e0 : (pr == 6) = false := by simp; omega
  have e1 : (pr == 17) = false := by simp; omega
  clear h0 h1
  go_enter Try.func29, Try.ntmps29
  go_upto_region 1 with         (first
          | go_skip
          | ((with_reducible refine at_box_ ?_); refine wpList_box_mem rfl _ _ rfl _ rfl hM ?_; clear hM; intro gb W hM; first | (simp only [List.nil_append] at hM) | (simp only [List.cons_append, List.nil_append] at hM))
          | ((with_reducible refine at_alloc_ (T := 39) ?_); refine wpList_alloc_mem rfl 39 rfl _ zv_Bound _ rfl hM ?_; clear hM; intro gb W hM; first | (simp only [List.nil_append] at hM) | (simp only [List.cons_append, List.nil_append] at hM))
          | ((with_reducible refine at_load_ (T := 39) ?_); refine at_wanted_ (by rfl) ?_; refine wpList_loadg_mem (by go_simp) 39 _ rfl 0 _ _ _ hM rfl rfl _ Try.underlying39 rfl sz_Bound ?_)
          | ((with_reducible refine at_store_ (T := 39) ?_); refine wpList_store_mem rfl 39 _ _ rfl 0 _ _ _ _ hM rfl rfl rfl rfl sz_Bound rfl ?_; clear hM; intro W hM; simp only [List.set_cons_zero] at hM))
  have hc := hM.cells 0 rfl
  have hlt := hM.lt 0 rfl
  simp only [cBound] at hc
  go_wp2_with fail
  go_ret
  exact ⟨ret_int HV.out.symm, hM.b⟩
set_option maxRecDepth 100000 in
set_option maxHeartbeats 2000000 in
theorem pcheck_1 {la lp ra rp ow : Int} {sh : Bool} (w : World) (h0 : lp < 1) : Calls Try.prog 29 #[.agg (cBound ⟨6, la, lp, ra, rp, sh, ow⟩).toArray] w fun e w' => e = .returned (.int .i64 (pCheck ⟨6, la, lp, ra, rp, sh, ow⟩)) ∧ Below w.heap.size w w' := by
  have hM := Mem.nil w
  have HV := Lib.hid (show pCheck ⟨6, la, lp, ra, rp, sh, ow⟩ = 1 by
    unfold pCheck
    rw [if_neg (by intro hk; simp [pOk] at hk; try omega)])
  have e0 : (decide (lp < 1)) = true := by simp; omega
  clear h0
  go_enter Try.func29, Try.ntmps29
  go_upto_region 1 with         (first
          | go_skip
          | ((with_reducible refine at_box_ ?_); refine wpList_box_mem rfl _ _ rfl _ rfl hM ?_; clear hM; intro gb W hM; first | (simp only [List.nil_append] at hM) | (simp only [List.cons_append, List.nil_append] at hM))
          | ((with_reducible refine at_alloc_ (T := 39) ?_); refine wpList_alloc_mem rfl 39 rfl _ zv_Bound _ rfl hM ?_; clear hM; intro gb W hM; first | (simp only [List.nil_append] at hM) | (simp only [List.cons_append, List.nil_append] at hM))
          | ((with_reducible refine at_load_ (T := 39) ?_); refine at_wanted_ (by rfl) ?_; refine wpList_loadg_mem (by go_simp) 39 _ rfl 0 _ _ _ hM rfl rfl _ Try.underlying39 rfl sz_Bound ?_)
          | ((with_reducible refine at_store_ (T := 39) ?_); refine wpList_store_mem rfl 39 _ _ rfl 0 _ _ _ _ hM rfl rfl rfl rfl sz_Bound rfl ?_; clear hM; intro W hM; simp only [List.set_cons_zero] at hM))
  have hc := hM.cells 0 rfl
  have hlt := hM.lt 0 rfl
  simp only [cBound] at hc
  go_wp2_with fail
  go_ret
  exact ⟨ret_int HV.out.symm, hM.b⟩
set_option maxRecDepth 100000 in
set_option maxHeartbeats 2000000 in
theorem pcheck_2 {la lp ra rp ow : Int} {sh : Bool} (w : World) (h0 : 65535 < lp) : Calls Try.prog 29 #[.agg (cBound ⟨6, la, lp, ra, rp, sh, ow⟩).toArray] w fun e w' => e = .returned (.int .i64 (pCheck ⟨6, la, lp, ra, rp, sh, ow⟩)) ∧ Below w.heap.size w w' := by
  have hM := Mem.nil w
  have HV := Lib.hid (show pCheck ⟨6, la, lp, ra, rp, sh, ow⟩ = 1 by
    unfold pCheck
    rw [if_neg (by intro hk; simp [pOk] at hk; try omega)])
  have e0 : (decide (lp < 1)) = false := by simp; omega
  have e1 : (decide (65535 < lp)) = true := by simp; omega
  clear h0
  go_enter Try.func29, Try.ntmps29
  go_upto_region 1 with         (first
          | go_skip
          | ((with_reducible refine at_box_ ?_); refine wpList_box_mem rfl _ _ rfl _ rfl hM ?_; clear hM; intro gb W hM; first | (simp only [List.nil_append] at hM) | (simp only [List.cons_append, List.nil_append] at hM))
          | ((with_reducible refine at_alloc_ (T := 39) ?_); refine wpList_alloc_mem rfl 39 rfl _ zv_Bound _ rfl hM ?_; clear hM; intro gb W hM; first | (simp only [List.nil_append] at hM) | (simp only [List.cons_append, List.nil_append] at hM))
          | ((with_reducible refine at_load_ (T := 39) ?_); refine at_wanted_ (by rfl) ?_; refine wpList_loadg_mem (by go_simp) 39 _ rfl 0 _ _ _ hM rfl rfl _ Try.underlying39 rfl sz_Bound ?_)
          | ((with_reducible refine at_store_ (T := 39) ?_); refine wpList_store_mem rfl 39 _ _ rfl 0 _ _ _ _ hM rfl rfl rfl rfl sz_Bound rfl ?_; clear hM; intro W hM; simp only [List.set_cons_zero] at hM))
  have hc := hM.cells 0 rfl
  have hlt := hM.lt 0 rfl
  simp only [cBound] at hc
  go_wp2_with fail
  go_ret
  exact ⟨ret_int HV.out.symm, hM.b⟩
set_option maxRecDepth 100000 in
set_option maxHeartbeats 2000000 in
theorem pcheck_3 {la lp ra rp ow : Int} {sh : Bool} (w : World) (h0 : 1 ≤ lp) (h1 : lp ≤ 65535) (h2 : rp < 0) : Calls Try.prog 29 #[.agg (cBound ⟨6, la, lp, ra, rp, sh, ow⟩).toArray] w fun e w' => e = .returned (.int .i64 (pCheck ⟨6, la, lp, ra, rp, sh, ow⟩)) ∧ Below w.heap.size w w' := by
  have hM := Mem.nil w
  have HV := Lib.hid (show pCheck ⟨6, la, lp, ra, rp, sh, ow⟩ = 1 by
    unfold pCheck
    rw [if_neg (by intro hk; simp [pOk] at hk; try omega)])
  have e0 : (decide (lp < 1)) = false := by simp; omega
  have e1 : (decide (65535 < lp)) = false := by simp; omega
  have e2 : (rp != 0) = true := by simp; omega
  have e3 : (decide (rp < 0)) = true := by simp; omega
  clear h0 h1 h2
  go_enter Try.func29, Try.ntmps29
  go_upto_region 1 with         (first
          | go_skip
          | ((with_reducible refine at_box_ ?_); refine wpList_box_mem rfl _ _ rfl _ rfl hM ?_; clear hM; intro gb W hM; first | (simp only [List.nil_append] at hM) | (simp only [List.cons_append, List.nil_append] at hM))
          | ((with_reducible refine at_alloc_ (T := 39) ?_); refine wpList_alloc_mem rfl 39 rfl _ zv_Bound _ rfl hM ?_; clear hM; intro gb W hM; first | (simp only [List.nil_append] at hM) | (simp only [List.cons_append, List.nil_append] at hM))
          | ((with_reducible refine at_load_ (T := 39) ?_); refine at_wanted_ (by rfl) ?_; refine wpList_loadg_mem (by go_simp) 39 _ rfl 0 _ _ _ hM rfl rfl _ Try.underlying39 rfl sz_Bound ?_)
          | ((with_reducible refine at_store_ (T := 39) ?_); refine wpList_store_mem rfl 39 _ _ rfl 0 _ _ _ _ hM rfl rfl rfl rfl sz_Bound rfl ?_; clear hM; intro W hM; simp only [List.set_cons_zero] at hM))
  have hc := hM.cells 0 rfl
  have hlt := hM.lt 0 rfl
  simp only [cBound] at hc
  go_wp2_with fail
  go_ret
  exact ⟨ret_int HV.out.symm, hM.b⟩
set_option maxRecDepth 100000 in
set_option maxHeartbeats 2000000 in
theorem pcheck_4 {la lp ra rp ow : Int} {sh : Bool} (w : World) (h0 : 1 ≤ lp) (h1 : lp ≤ 65535) (h2 : 65535 < rp) : Calls Try.prog 29 #[.agg (cBound ⟨6, la, lp, ra, rp, sh, ow⟩).toArray] w fun e w' => e = .returned (.int .i64 (pCheck ⟨6, la, lp, ra, rp, sh, ow⟩)) ∧ Below w.heap.size w w' := by
  have hM := Mem.nil w
  have HV := Lib.hid (show pCheck ⟨6, la, lp, ra, rp, sh, ow⟩ = 1 by
    unfold pCheck
    rw [if_neg (by intro hk; simp [pOk] at hk; try omega)])
  have e0 : (decide (lp < 1)) = false := by simp; omega
  have e1 : (decide (65535 < lp)) = false := by simp; omega
  have e2 : (rp != 0) = true := by simp; omega
  have e3 : (decide (rp < 0)) = false := by simp; omega
  have e4 : (decide (65535 < rp)) = true := by simp; omega
  clear h0 h1 h2
  go_enter Try.func29, Try.ntmps29
  go_upto_region 1 with         (first
          | go_skip
          | ((with_reducible refine at_box_ ?_); refine wpList_box_mem rfl _ _ rfl _ rfl hM ?_; clear hM; intro gb W hM; first | (simp only [List.nil_append] at hM) | (simp only [List.cons_append, List.nil_append] at hM))
          | ((with_reducible refine at_alloc_ (T := 39) ?_); refine wpList_alloc_mem rfl 39 rfl _ zv_Bound _ rfl hM ?_; clear hM; intro gb W hM; first | (simp only [List.nil_append] at hM) | (simp only [List.cons_append, List.nil_append] at hM))
          | ((with_reducible refine at_load_ (T := 39) ?_); refine at_wanted_ (by rfl) ?_; refine wpList_loadg_mem (by go_simp) 39 _ rfl 0 _ _ _ hM rfl rfl _ Try.underlying39 rfl sz_Bound ?_)
          | ((with_reducible refine at_store_ (T := 39) ?_); refine wpList_store_mem rfl 39 _ _ rfl 0 _ _ _ _ hM rfl rfl rfl rfl sz_Bound rfl ?_; clear hM; intro W hM; simp only [List.set_cons_zero] at hM))
  have hc := hM.cells 0 rfl
  have hlt := hM.lt 0 rfl
  simp only [cBound] at hc
  go_wp2_with fail
  go_ret
  exact ⟨ret_int HV.out.symm, hM.b⟩
set_option maxRecDepth 100000 in
set_option maxHeartbeats 2000000 in
theorem pcheck_5 {la lp ra ow : Int} {sh : Bool} (w : World) (h0 : 1 ≤ lp) (h1 : lp ≤ 65535) (h2 : ra ≠ 0) : Calls Try.prog 29 #[.agg (cBound ⟨6, la, lp, ra, 0, sh, ow⟩).toArray] w fun e w' => e = .returned (.int .i64 (pCheck ⟨6, la, lp, ra, 0, sh, ow⟩)) ∧ Below w.heap.size w w' := by
  have hM := Mem.nil w
  have HV := Lib.hid (show pCheck ⟨6, la, lp, ra, 0, sh, ow⟩ = 1 by
    unfold pCheck
    rw [if_neg (by intro hk; simp [pOk] at hk; try omega)])
  have e0 : (decide (lp < 1)) = false := by simp; omega
  have e1 : (decide (65535 < lp)) = false := by simp; omega
  have e2 : (ra != 0) = true := by simp; omega
  clear h0 h1 h2
  go_enter Try.func29, Try.ntmps29
  go_upto_region 1 with         (first
          | go_skip
          | ((with_reducible refine at_box_ ?_); refine wpList_box_mem rfl _ _ rfl _ rfl hM ?_; clear hM; intro gb W hM; first | (simp only [List.nil_append] at hM) | (simp only [List.cons_append, List.nil_append] at hM))
          | ((with_reducible refine at_alloc_ (T := 39) ?_); refine wpList_alloc_mem rfl 39 rfl _ zv_Bound _ rfl hM ?_; clear hM; intro gb W hM; first | (simp only [List.nil_append] at hM) | (simp only [List.cons_append, List.nil_append] at hM))
          | ((with_reducible refine at_load_ (T := 39) ?_); refine at_wanted_ (by rfl) ?_; refine wpList_loadg_mem (by go_simp) 39 _ rfl 0 _ _ _ hM rfl rfl _ Try.underlying39 rfl sz_Bound ?_)
          | ((with_reducible refine at_store_ (T := 39) ?_); refine wpList_store_mem rfl 39 _ _ rfl 0 _ _ _ _ hM rfl rfl rfl rfl sz_Bound rfl ?_; clear hM; intro W hM; simp only [List.set_cons_zero] at hM))
  have hc := hM.cells 0 rfl
  have hlt := hM.lt 0 rfl
  simp only [cBound] at hc
  go_wp2_with fail
  go_ret
  exact ⟨ret_int HV.out.symm, hM.b⟩
set_option maxRecDepth 100000 in
set_option maxHeartbeats 2000000 in
theorem pcheck_6 {la lp ow : Int} {sh : Bool} (w : World) (h0 : 1 ≤ lp) (h1 : lp ≤ 65535) : Calls Try.prog 29 #[.agg (cBound ⟨6, la, lp, 0, 0, sh, ow⟩).toArray] w fun e w' => e = .returned (.int .i64 (pCheck ⟨6, la, lp, 0, 0, sh, ow⟩)) ∧ Below w.heap.size w w' := by
  have hM := Mem.nil w
  have HV := Lib.hid (show pCheck ⟨6, la, lp, 0, 0, sh, ow⟩ = 0 by
    unfold pCheck
    rw [if_pos (by simp [pOk]; try omega)])
  have e0 : (decide (lp < 1)) = false := by simp; omega
  have e1 : (decide (65535 < lp)) = false := by simp; omega
  clear h0 h1
  go_enter Try.func29, Try.ntmps29
  go_upto_region 1 with         (first
          | go_skip
          | ((with_reducible refine at_box_ ?_); refine wpList_box_mem rfl _ _ rfl _ rfl hM ?_; clear hM; intro gb W hM; first | (simp only [List.nil_append] at hM) | (simp only [List.cons_append, List.nil_append] at hM))
          | ((with_reducible refine at_alloc_ (T := 39) ?_); refine wpList_alloc_mem rfl 39 rfl _ zv_Bound _ rfl hM ?_; clear hM; intro gb W hM; first | (simp only [List.nil_append] at hM) | (simp only [List.cons_append, List.nil_append] at hM))
          | ((with_reducible refine at_load_ (T := 39) ?_); refine at_wanted_ (by rfl) ?_; refine wpList_loadg_mem (by go_simp) 39 _ rfl 0 _ _ _ hM rfl rfl _ Try.underlying39 rfl sz_Bound ?_)
          | ((with_reducible refine at_store_ (T := 39) ?_); refine wpList_store_mem rfl 39 _ _ rfl 0 _ _ _ _ hM rfl rfl rfl rfl sz_Bound rfl ?_; clear hM; intro W hM; simp only [List.set_cons_zero] at hM))
  have hc := hM.cells 0 rfl
  have hlt := hM.lt 0 rfl
  simp only [cBound] at hc
  go_wp2_with fail
  go_ret
  exact ⟨ret_int HV.out.symm, hM.b⟩
set_option maxRecDepth 100000 in
set_option maxHeartbeats 2000000 in
theorem pcheck_7 {lp ra rp ow : Int} {sh : Bool} (w : World) (h0 : 1 ≤ lp) (h1 : lp ≤ 65535) (h2 : 1 ≤ rp) (h3 : rp ≤ 65535) : Calls Try.prog 29 #[.agg (cBound ⟨6, 0, lp, ra, rp, sh, ow⟩).toArray] w fun e w' => e = .returned (.int .i64 (pCheck ⟨6, 0, lp, ra, rp, sh, ow⟩)) ∧ Below w.heap.size w w' := by
  have hM := Mem.nil w
  have HV := Lib.hid (show pCheck ⟨6, 0, lp, ra, rp, sh, ow⟩ = 1 by
    unfold pCheck
    rw [if_neg (by intro hk; simp [pOk] at hk; try omega)])
  have e0 : (decide (lp < 1)) = false := by simp; omega
  have e1 : (decide (65535 < lp)) = false := by simp; omega
  have e2 : (rp != 0) = true := by simp; omega
  have e3 : (decide (rp < 0)) = false := by simp; omega
  have e4 : (decide (65535 < rp)) = false := by simp; omega
  clear h0 h1 h2 h3
  go_enter Try.func29, Try.ntmps29
  go_upto_region 1 with         (first
          | go_skip
          | ((with_reducible refine at_box_ ?_); refine wpList_box_mem rfl _ _ rfl _ rfl hM ?_; clear hM; intro gb W hM; first | (simp only [List.nil_append] at hM) | (simp only [List.cons_append, List.nil_append] at hM))
          | ((with_reducible refine at_alloc_ (T := 39) ?_); refine wpList_alloc_mem rfl 39 rfl _ zv_Bound _ rfl hM ?_; clear hM; intro gb W hM; first | (simp only [List.nil_append] at hM) | (simp only [List.cons_append, List.nil_append] at hM))
          | ((with_reducible refine at_load_ (T := 39) ?_); refine at_wanted_ (by rfl) ?_; refine wpList_loadg_mem (by go_simp) 39 _ rfl 0 _ _ _ hM rfl rfl _ Try.underlying39 rfl sz_Bound ?_)
          | ((with_reducible refine at_store_ (T := 39) ?_); refine wpList_store_mem rfl 39 _ _ rfl 0 _ _ _ _ hM rfl rfl rfl rfl sz_Bound rfl ?_; clear hM; intro W hM; simp only [List.set_cons_zero] at hM))
  have hc := hM.cells 0 rfl
  have hlt := hM.lt 0 rfl
  simp only [cBound] at hc
  go_wp2_with fail
  go_ret
  exact ⟨ret_int HV.out.symm, hM.b⟩
set_option maxRecDepth 100000 in
set_option maxHeartbeats 2000000 in
theorem pcheck_8 {la lp ra rp ow : Int} {sh : Bool} (w : World) (h0 : 1 ≤ lp) (h1 : lp ≤ 65535) (h2 : 1 ≤ rp) (h3 : rp ≤ 65535) (h4 : la ≠ 0) : Calls Try.prog 29 #[.agg (cBound ⟨6, la, lp, ra, rp, sh, ow⟩).toArray] w fun e w' => e = .returned (.int .i64 (pCheck ⟨6, la, lp, ra, rp, sh, ow⟩)) ∧ Below w.heap.size w w' := by
  have hM := Mem.nil w
  have HV := Lib.hid (show pCheck ⟨6, la, lp, ra, rp, sh, ow⟩ = 0 by
    unfold pCheck
    rw [if_pos (by simp [pOk]; try omega)])
  have e0 : (decide (lp < 1)) = false := by simp; omega
  have e1 : (decide (65535 < lp)) = false := by simp; omega
  have e2 : (rp != 0) = true := by simp; omega
  have e3 : (decide (rp < 0)) = false := by simp; omega
  have e4 : (decide (65535 < rp)) = false := by simp; omega
  have e5 : (la == 0) = false := by simp; omega
  clear h0 h1 h2 h3 h4
  go_enter Try.func29, Try.ntmps29
  go_upto_region 1 with         (first
          | go_skip
          | ((with_reducible refine at_box_ ?_); refine wpList_box_mem rfl _ _ rfl _ rfl hM ?_; clear hM; intro gb W hM; first | (simp only [List.nil_append] at hM) | (simp only [List.cons_append, List.nil_append] at hM))
          | ((with_reducible refine at_alloc_ (T := 39) ?_); refine wpList_alloc_mem rfl 39 rfl _ zv_Bound _ rfl hM ?_; clear hM; intro gb W hM; first | (simp only [List.nil_append] at hM) | (simp only [List.cons_append, List.nil_append] at hM))
          | ((with_reducible refine at_load_ (T := 39) ?_); refine at_wanted_ (by rfl) ?_; refine wpList_loadg_mem (by go_simp) 39 _ rfl 0 _ _ _ hM rfl rfl _ Try.underlying39 rfl sz_Bound ?_)
          | ((with_reducible refine at_store_ (T := 39) ?_); refine wpList_store_mem rfl 39 _ _ rfl 0 _ _ _ _ hM rfl rfl rfl rfl sz_Bound rfl ?_; clear hM; intro W hM; simp only [List.set_cons_zero] at hM))
  have hc := hM.cells 0 rfl
  have hlt := hM.lt 0 rfl
  simp only [cBound] at hc
  go_wp2_with fail
  go_ret
  exact ⟨ret_int HV.out.symm, hM.b⟩
set_option maxRecDepth 100000 in
set_option maxHeartbeats 2000000 in
theorem pcheck_9 {la lp ra rp ow : Int} {sh : Bool} (w : World) (h0 : lp < 1) : Calls Try.prog 29 #[.agg (cBound ⟨17, la, lp, ra, rp, sh, ow⟩).toArray] w fun e w' => e = .returned (.int .i64 (pCheck ⟨17, la, lp, ra, rp, sh, ow⟩)) ∧ Below w.heap.size w w' := by
  have hM := Mem.nil w
  have HV := Lib.hid (show pCheck ⟨17, la, lp, ra, rp, sh, ow⟩ = 1 by
    unfold pCheck
    rw [if_neg (by intro hk; simp [pOk] at hk; try omega)])
  have e0 : (decide (lp < 1)) = true := by simp; omega
  clear h0
  go_enter Try.func29, Try.ntmps29
  go_upto_region 1 with         (first
          | go_skip
          | ((with_reducible refine at_box_ ?_); refine wpList_box_mem rfl _ _ rfl _ rfl hM ?_; clear hM; intro gb W hM; first | (simp only [List.nil_append] at hM) | (simp only [List.cons_append, List.nil_append] at hM))
          | ((with_reducible refine at_alloc_ (T := 39) ?_); refine wpList_alloc_mem rfl 39 rfl _ zv_Bound _ rfl hM ?_; clear hM; intro gb W hM; first | (simp only [List.nil_append] at hM) | (simp only [List.cons_append, List.nil_append] at hM))
          | ((with_reducible refine at_load_ (T := 39) ?_); refine at_wanted_ (by rfl) ?_; refine wpList_loadg_mem (by go_simp) 39 _ rfl 0 _ _ _ hM rfl rfl _ Try.underlying39 rfl sz_Bound ?_)
          | ((with_reducible refine at_store_ (T := 39) ?_); refine wpList_store_mem rfl 39 _ _ rfl 0 _ _ _ _ hM rfl rfl rfl rfl sz_Bound rfl ?_; clear hM; intro W hM; simp only [List.set_cons_zero] at hM))
  have hc := hM.cells 0 rfl
  have hlt := hM.lt 0 rfl
  simp only [cBound] at hc
  go_wp2_with fail
  go_ret
  exact ⟨ret_int HV.out.symm, hM.b⟩
set_option maxRecDepth 100000 in
set_option maxHeartbeats 2000000 in
theorem pcheck_10 {la lp ra rp ow : Int} {sh : Bool} (w : World) (h0 : 65535 < lp) : Calls Try.prog 29 #[.agg (cBound ⟨17, la, lp, ra, rp, sh, ow⟩).toArray] w fun e w' => e = .returned (.int .i64 (pCheck ⟨17, la, lp, ra, rp, sh, ow⟩)) ∧ Below w.heap.size w w' := by
  have hM := Mem.nil w
  have HV := Lib.hid (show pCheck ⟨17, la, lp, ra, rp, sh, ow⟩ = 1 by
    unfold pCheck
    rw [if_neg (by intro hk; simp [pOk] at hk; try omega)])
  have e0 : (decide (lp < 1)) = false := by simp; omega
  have e1 : (decide (65535 < lp)) = true := by simp; omega
  clear h0
  go_enter Try.func29, Try.ntmps29
  go_upto_region 1 with         (first
          | go_skip
          | ((with_reducible refine at_box_ ?_); refine wpList_box_mem rfl _ _ rfl _ rfl hM ?_; clear hM; intro gb W hM; first | (simp only [List.nil_append] at hM) | (simp only [List.cons_append, List.nil_append] at hM))
          | ((with_reducible refine at_alloc_ (T := 39) ?_); refine wpList_alloc_mem rfl 39 rfl _ zv_Bound _ rfl hM ?_; clear hM; intro gb W hM; first | (simp only [List.nil_append] at hM) | (simp only [List.cons_append, List.nil_append] at hM))
          | ((with_reducible refine at_load_ (T := 39) ?_); refine at_wanted_ (by rfl) ?_; refine wpList_loadg_mem (by go_simp) 39 _ rfl 0 _ _ _ hM rfl rfl _ Try.underlying39 rfl sz_Bound ?_)
          | ((with_reducible refine at_store_ (T := 39) ?_); refine wpList_store_mem rfl 39 _ _ rfl 0 _ _ _ _ hM rfl rfl rfl rfl sz_Bound rfl ?_; clear hM; intro W hM; simp only [List.set_cons_zero] at hM))
  have hc := hM.cells 0 rfl
  have hlt := hM.lt 0 rfl
  simp only [cBound] at hc
  go_wp2_with fail
  go_ret
  exact ⟨ret_int HV.out.symm, hM.b⟩
set_option maxRecDepth 100000 in
set_option maxHeartbeats 2000000 in
theorem pcheck_11 {la lp ra rp ow : Int} {sh : Bool} (w : World) (h0 : 1 ≤ lp) (h1 : lp ≤ 65535) (h2 : rp < 0) : Calls Try.prog 29 #[.agg (cBound ⟨17, la, lp, ra, rp, sh, ow⟩).toArray] w fun e w' => e = .returned (.int .i64 (pCheck ⟨17, la, lp, ra, rp, sh, ow⟩)) ∧ Below w.heap.size w w' := by
  have hM := Mem.nil w
  have HV := Lib.hid (show pCheck ⟨17, la, lp, ra, rp, sh, ow⟩ = 1 by
    unfold pCheck
    rw [if_neg (by intro hk; simp [pOk] at hk; try omega)])
  have e0 : (decide (lp < 1)) = false := by simp; omega
  have e1 : (decide (65535 < lp)) = false := by simp; omega
  have e2 : (rp != 0) = true := by simp; omega
  have e3 : (decide (rp < 0)) = true := by simp; omega
  clear h0 h1 h2
  go_enter Try.func29, Try.ntmps29
  go_upto_region 1 with         (first
          | go_skip
          | ((with_reducible refine at_box_ ?_); refine wpList_box_mem rfl _ _ rfl _ rfl hM ?_; clear hM; intro gb W hM; first | (simp only [List.nil_append] at hM) | (simp only [List.cons_append, List.nil_append] at hM))
          | ((with_reducible refine at_alloc_ (T := 39) ?_); refine wpList_alloc_mem rfl 39 rfl _ zv_Bound _ rfl hM ?_; clear hM; intro gb W hM; first | (simp only [List.nil_append] at hM) | (simp only [List.cons_append, List.nil_append] at hM))
          | ((with_reducible refine at_load_ (T := 39) ?_); refine at_wanted_ (by rfl) ?_; refine wpList_loadg_mem (by go_simp) 39 _ rfl 0 _ _ _ hM rfl rfl _ Try.underlying39 rfl sz_Bound ?_)
          | ((with_reducible refine at_store_ (T := 39) ?_); refine wpList_store_mem rfl 39 _ _ rfl 0 _ _ _ _ hM rfl rfl rfl rfl sz_Bound rfl ?_; clear hM; intro W hM; simp only [List.set_cons_zero] at hM))
  have hc := hM.cells 0 rfl
  have hlt := hM.lt 0 rfl
  simp only [cBound] at hc
  go_wp2_with fail
  go_ret
  exact ⟨ret_int HV.out.symm, hM.b⟩
set_option maxRecDepth 100000 in
set_option maxHeartbeats 2000000 in
theorem pcheck_12 {la lp ra rp ow : Int} {sh : Bool} (w : World) (h0 : 1 ≤ lp) (h1 : lp ≤ 65535) (h2 : 65535 < rp) : Calls Try.prog 29 #[.agg (cBound ⟨17, la, lp, ra, rp, sh, ow⟩).toArray] w fun e w' => e = .returned (.int .i64 (pCheck ⟨17, la, lp, ra, rp, sh, ow⟩)) ∧ Below w.heap.size w w' := by
  have hM := Mem.nil w
  have HV := Lib.hid (show pCheck ⟨17, la, lp, ra, rp, sh, ow⟩ = 1 by
    unfold pCheck
    rw [if_neg (by intro hk; simp [pOk] at hk; try omega)])
  have e0 : (decide (lp < 1)) = false := by simp; omega
  have e1 : (decide (65535 < lp)) = false := by simp; omega
  have e2 : (rp != 0) = true := by simp; omega
  have e3 : (decide (rp < 0)) = false := by simp; omega
  have e4 : (decide (65535 < rp)) = true := by simp; omega
  clear h0 h1 h2
  go_enter Try.func29, Try.ntmps29
  go_upto_region 1 with         (first
          | go_skip
          | ((with_reducible refine at_box_ ?_); refine wpList_box_mem rfl _ _ rfl _ rfl hM ?_; clear hM; intro gb W hM; first | (simp only [List.nil_append] at hM) | (simp only [List.cons_append, List.nil_append] at hM))
          | ((with_reducible refine at_alloc_ (T := 39) ?_); refine wpList_alloc_mem rfl 39 rfl _ zv_Bound _ rfl hM ?_; clear hM; intro gb W hM; first | (simp only [List.nil_append] at hM) | (simp only [List.cons_append, List.nil_append] at hM))
          | ((with_reducible refine at_load_ (T := 39) ?_); refine at_wanted_ (by rfl) ?_; refine wpList_loadg_mem (by go_simp) 39 _ rfl 0 _ _ _ hM rfl rfl _ Try.underlying39 rfl sz_Bound ?_)
          | ((with_reducible refine at_store_ (T := 39) ?_); refine wpList_store_mem rfl 39 _ _ rfl 0 _ _ _ _ hM rfl rfl rfl rfl sz_Bound rfl ?_; clear hM; intro W hM; simp only [List.set_cons_zero] at hM))
  have hc := hM.cells 0 rfl
  have hlt := hM.lt 0 rfl
  simp only [cBound] at hc
  go_wp2_with fail
  go_ret
  exact ⟨ret_int HV.out.symm, hM.b⟩
set_option maxRecDepth 100000 in
set_option maxHeartbeats 2000000 in
theorem pcheck_13 {la lp ra ow : Int} {sh : Bool} (w : World) (h0 : 1 ≤ lp) (h1 : lp ≤ 65535) (h2 : ra ≠ 0) : Calls Try.prog 29 #[.agg (cBound ⟨17, la, lp, ra, 0, sh, ow⟩).toArray] w fun e w' => e = .returned (.int .i64 (pCheck ⟨17, la, lp, ra, 0, sh, ow⟩)) ∧ Below w.heap.size w w' := by
  have hM := Mem.nil w
  have HV := Lib.hid (show pCheck ⟨17, la, lp, ra, 0, sh, ow⟩ = 1 by
    unfold pCheck
    rw [if_neg (by intro hk; simp [pOk] at hk; try omega)])
  have e0 : (decide (lp < 1)) = false := by simp; omega
  have e1 : (decide (65535 < lp)) = false := by simp; omega
  have e2 : (ra != 0) = true := by simp; omega
  clear h0 h1 h2
  go_enter Try.func29, Try.ntmps29
  go_upto_region 1 with         (first
          | go_skip
          | ((with_reducible refine at_box_ ?_); refine wpList_box_mem rfl _ _ rfl _ rfl hM ?_; clear hM; intro gb W hM; first | (simp only [List.nil_append] at hM) | (simp only [List.cons_append, List.nil_append] at hM))
          | ((with_reducible refine at_alloc_ (T := 39) ?_); refine wpList_alloc_mem rfl 39 rfl _ zv_Bound _ rfl hM ?_; clear hM; intro gb W hM; first | (simp only [List.nil_append] at hM) | (simp only [List.cons_append, List.nil_append] at hM))
          | ((with_reducible refine at_load_ (T := 39) ?_); refine at_wanted_ (by rfl) ?_; refine wpList_loadg_mem (by go_simp) 39 _ rfl 0 _ _ _ hM rfl rfl _ Try.underlying39 rfl sz_Bound ?_)
          | ((with_reducible refine at_store_ (T := 39) ?_); refine wpList_store_mem rfl 39 _ _ rfl 0 _ _ _ _ hM rfl rfl rfl rfl sz_Bound rfl ?_; clear hM; intro W hM; simp only [List.set_cons_zero] at hM))
  have hc := hM.cells 0 rfl
  have hlt := hM.lt 0 rfl
  simp only [cBound] at hc
  go_wp2_with fail
  go_ret
  exact ⟨ret_int HV.out.symm, hM.b⟩
set_option maxRecDepth 100000 in
set_option maxHeartbeats 2000000 in
theorem pcheck_14 {la lp ow : Int} {sh : Bool} (w : World) (h0 : 1 ≤ lp) (h1 : lp ≤ 65535) : Calls Try.prog 29 #[.agg (cBound ⟨17, la, lp, 0, 0, sh, ow⟩).toArray] w fun e w' => e = .returned (.int .i64 (pCheck ⟨17, la, lp, 0, 0, sh, ow⟩)) ∧ Below w.heap.size w w' := by
  have hM := Mem.nil w
  have HV := Lib.hid (show pCheck ⟨17, la, lp, 0, 0, sh, ow⟩ = 0 by
    unfold pCheck
    rw [if_pos (by simp [pOk]; try omega)])
  have e0 : (decide (lp < 1)) = false := by simp; omega
  have e1 : (decide (65535 < lp)) = false := by simp; omega
  clear h0 h1
  go_enter Try.func29, Try.ntmps29
  go_upto_region 1 with         (first
          | go_skip
          | ((with_reducible refine at_box_ ?_); refine wpList_box_mem rfl _ _ rfl _ rfl hM ?_; clear hM; intro gb W hM; first | (simp only [List.nil_append] at hM) | (simp only [List.cons_append, List.nil_append] at hM))
          | ((with_reducible refine at_alloc_ (T := 39) ?_); refine wpList_alloc_mem rfl 39 rfl _ zv_Bound _ rfl hM ?_; clear hM; intro gb W hM; first | (simp only [List.nil_append] at hM) | (simp only [List.cons_append, List.nil_append] at hM))
          | ((with_reducible refine at_load_ (T := 39) ?_); refine at_wanted_ (by rfl) ?_; refine wpList_loadg_mem (by go_simp) 39 _ rfl 0 _ _ _ hM rfl rfl _ Try.underlying39 rfl sz_Bound ?_)
          | ((with_reducible refine at_store_ (T := 39) ?_); refine wpList_store_mem rfl 39 _ _ rfl 0 _ _ _ _ hM rfl rfl rfl rfl sz_Bound rfl ?_; clear hM; intro W hM; simp only [List.set_cons_zero] at hM))
  have hc := hM.cells 0 rfl
  have hlt := hM.lt 0 rfl
  simp only [cBound] at hc
  go_wp2_with fail
  go_ret
  exact ⟨ret_int HV.out.symm, hM.b⟩
set_option maxRecDepth 100000 in
set_option maxHeartbeats 2000000 in
theorem pcheck_15 {lp ra rp ow : Int} {sh : Bool} (w : World) (h0 : 1 ≤ lp) (h1 : lp ≤ 65535) (h2 : 1 ≤ rp) (h3 : rp ≤ 65535) : Calls Try.prog 29 #[.agg (cBound ⟨17, 0, lp, ra, rp, sh, ow⟩).toArray] w fun e w' => e = .returned (.int .i64 (pCheck ⟨17, 0, lp, ra, rp, sh, ow⟩)) ∧ Below w.heap.size w w' := by
  have hM := Mem.nil w
  have HV := Lib.hid (show pCheck ⟨17, 0, lp, ra, rp, sh, ow⟩ = 1 by
    unfold pCheck
    rw [if_neg (by intro hk; simp [pOk] at hk; try omega)])
  have e0 : (decide (lp < 1)) = false := by simp; omega
  have e1 : (decide (65535 < lp)) = false := by simp; omega
  have e2 : (rp != 0) = true := by simp; omega
  have e3 : (decide (rp < 0)) = false := by simp; omega
  have e4 : (decide (65535 < rp)) = false := by simp; omega
  clear h0 h1 h2 h3
  go_enter Try.func29, Try.ntmps29
  go_upto_region 1 with         (first
          | go_skip
          | ((with_reducible refine at_box_ ?_); refine wpList_box_mem rfl _ _ rfl _ rfl hM ?_; clear hM; intro gb W hM; first | (simp only [List.nil_append] at hM) | (simp only [List.cons_append, List.nil_append] at hM))
          | ((with_reducible refine at_alloc_ (T := 39) ?_); refine wpList_alloc_mem rfl 39 rfl _ zv_Bound _ rfl hM ?_; clear hM; intro gb W hM; first | (simp only [List.nil_append] at hM) | (simp only [List.cons_append, List.nil_append] at hM))
          | ((with_reducible refine at_load_ (T := 39) ?_); refine at_wanted_ (by rfl) ?_; refine wpList_loadg_mem (by go_simp) 39 _ rfl 0 _ _ _ hM rfl rfl _ Try.underlying39 rfl sz_Bound ?_)
          | ((with_reducible refine at_store_ (T := 39) ?_); refine wpList_store_mem rfl 39 _ _ rfl 0 _ _ _ _ hM rfl rfl rfl rfl sz_Bound rfl ?_; clear hM; intro W hM; simp only [List.set_cons_zero] at hM))
  have hc := hM.cells 0 rfl
  have hlt := hM.lt 0 rfl
  simp only [cBound] at hc
  go_wp2_with fail
  go_ret
  exact ⟨ret_int HV.out.symm, hM.b⟩
set_option maxRecDepth 100000 in
set_option maxHeartbeats 2000000 in
theorem pcheck_16 {la lp ra rp ow : Int} {sh : Bool} (w : World) (h0 : 1 ≤ lp) (h1 : lp ≤ 65535) (h2 : 1 ≤ rp) (h3 : rp ≤ 65535) (h4 : la ≠ 0) : Calls Try.prog 29 #[.agg (cBound ⟨17, la, lp, ra, rp, sh, ow⟩).toArray] w fun e w' => e = .returned (.int .i64 (pCheck ⟨17, la, lp, ra, rp, sh, ow⟩)) ∧ Below w.heap.size w w' := by
  have hM := Mem.nil w
  have HV := Lib.hid (show pCheck ⟨17, la, lp, ra, rp, sh, ow⟩ = 0 by
    unfold pCheck
    rw [if_pos (by simp [pOk]; try omega)])
  have e0 : (decide (lp < 1)) = false := by simp; omega
  have e1 : (decide (65535 < lp)) = false := by simp; omega
  have e2 : (rp != 0) = true := by simp; omega
  have e3 : (decide (rp < 0)) = false := by simp; omega
  have e4 : (decide (65535 < rp)) = false := by simp; omega
  have e5 : (la == 0) = false := by simp; omega
  clear h0 h1 h2 h3 h4
  go_enter Try.func29, Try.ntmps29
  go_upto_region 1 with         (first
          | go_skip
          | ((with_reducible refine at_box_ ?_); refine wpList_box_mem rfl _ _ rfl _ rfl hM ?_; clear hM; intro gb W hM; first | (simp only [List.nil_append] at hM) | (simp only [List.cons_append, List.nil_append] at hM))
          | ((with_reducible refine at_alloc_ (T := 39) ?_); refine wpList_alloc_mem rfl 39 rfl _ zv_Bound _ rfl hM ?_; clear hM; intro gb W hM; first | (simp only [List.nil_append] at hM) | (simp only [List.cons_append, List.nil_append] at hM))
          | ((with_reducible refine at_load_ (T := 39) ?_); refine at_wanted_ (by rfl) ?_; refine wpList_loadg_mem (by go_simp) 39 _ rfl 0 _ _ _ hM rfl rfl _ Try.underlying39 rfl sz_Bound ?_)
          | ((with_reducible refine at_store_ (T := 39) ?_); refine wpList_store_mem rfl 39 _ _ rfl 0 _ _ _ _ hM rfl rfl rfl rfl sz_Bound rfl ?_; clear hM; intro W hM; simp only [List.set_cons_zero] at hM))
  have hc := hM.cells 0 rfl
  have hlt := hM.lt 0 rfl
  simp only [cBound] at hc
  go_wp2_with fail
  go_ret
  exact ⟨ret_int HV.out.symm, hM.b⟩
theorem pcheck_any (b : KBound) (w : World) : Calls Try.prog 29 #[.agg (cBound b).toArray] w fun e w' => e = .returned (.int .i64 (pCheck b)) ∧ Below w.heap.size w w' := by
  obtain ⟨pr, la, lp, ra, rp, sh, ow⟩ := b
  have go : ∀ pr, (pr = 6 ∨ pr = 17) → Calls Try.prog 29 #[.agg (cBound ⟨pr, la, lp, ra, rp, sh, ow⟩).toArray] w fun e w' => e = .returned (.int .i64 (pCheck ⟨pr, la, lp, ra, rp, sh, ow⟩)) ∧ Below w.heap.size w w' := by
    intro pr hpr
    by_cases a1 : lp < 1
    · rcases hpr with rfl | rfl
      · exact pcheck_1 w a1
      · exact pcheck_9 w a1
    · by_cases a2 : 65535 < lp
      · rcases hpr with rfl | rfl
        · exact pcheck_2 w a2
        · exact pcheck_10 w a2
      · have b1 : 1 ≤ lp := by omega
        have b2 : lp ≤ 65535 := by omega
        by_cases a3 : rp < 0
        · rcases hpr with rfl | rfl
          · exact pcheck_3 w b1 b2 a3
          · exact pcheck_11 w b1 b2 a3
        · by_cases a4 : 65535 < rp
          · rcases hpr with rfl | rfl
            · exact pcheck_4 w b1 b2 a4
            · exact pcheck_12 w b1 b2 a4
          · by_cases a5 : rp = 0
            · subst a5
              by_cases a6 : ra = 0
              · subst a6
                rcases hpr with rfl | rfl
                · exact pcheck_6 w b1 b2
                · exact pcheck_14 w b1 b2
              · rcases hpr with rfl | rfl
                · exact pcheck_5 w b1 b2 a6
                · exact pcheck_13 w b1 b2 a6
            · have b3 : 1 ≤ rp := by omega
              have b4 : rp ≤ 65535 := by omega
              by_cases a6 : la = 0
              · subst a6
                rcases hpr with rfl | rfl
                · exact pcheck_7 w b1 b2 b3 b4
                · exact pcheck_15 w b1 b2 b3 b4
              · rcases hpr with rfl | rfl
                · exact pcheck_8 w b1 b2 b3 b4 a6
                · exact pcheck_16 w b1 b2 b3 b4 a6
  by_cases h6 : pr = 6
  · exact go pr (.inl h6)
  · by_cases h17 : pr = 17
    · exact go pr (.inr h17)
    · exact pcheck_0 w h6 h17
end Go.Proofs.Ytppjmhkecogbcaa
