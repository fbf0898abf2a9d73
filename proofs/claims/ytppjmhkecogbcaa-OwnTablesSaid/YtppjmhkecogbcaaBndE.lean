/- Contracts of ports: clash. Written by my genbc.py. -/
import Derived.Test.YtppjmhkecogbcaaBndC
namespace Go.Proofs.Ytppjmhkecogbcaa
open Go.RowKit Go.Lib
set_option linter.unusedVariables false
set_option linter.unusedSimpArgs false

set_option maxRecDepth 100000 in
set_option maxHeartbeats 2000000 in
theorem pclash_7 {pr la lp ra rp ow ow' : Int} {sh' : Bool} (w : World) (h0 : la ≠ 0) : Calls Try.prog 35 #[.agg (cBound ⟨pr, la, lp, ra, rp, false, ow⟩).toArray, .agg (cBound ⟨pr, 0, lp, ra, rp, sh', ow'⟩).toArray] w fun e w' => e = .returned (.bool (pClash ⟨pr, la, lp, ra, rp, false, ow⟩ ⟨pr, 0, lp, ra, rp, sh', ow'⟩)) ∧ Below w.heap.size w w' := by
  have hM := Mem.nil w
  have HV := Lib.hid (show pClash ⟨pr, la, lp, ra, rp, false, ow⟩ ⟨pr, 0, lp, ra, rp, sh', ow'⟩ = true by
    unfold pClash pSame pShare
    simp [h0])
  have e0 : (la == 0) = false := by simp; omega
  have e1 : (la != 0) = true := by simp; omega
  clear h0
  go_enter Try.func35, Try.ntmps35
  go_upto_region 1 with         (first
          | go_skip
          | ((with_reducible refine at_box_ ?_); refine wpList_box_mem rfl _ _ rfl _ rfl hM ?_; clear hM; intro gb W hM; first | (simp only [List.nil_append] at hM) | (simp only [List.cons_append, List.nil_append] at hM))
          | ((with_reducible refine at_alloc_ (T := 39) ?_); refine wpList_alloc_mem rfl 39 rfl _ zv_Bound _ rfl hM ?_; clear hM; intro gb W hM; first | (simp only [List.nil_append] at hM) | (simp only [List.cons_append, List.nil_append] at hM))
          | ((with_reducible refine at_load_ (T := 39) ?_); refine at_wanted_ (by rfl) ?_; first | (refine wpList_loadg_mem (by go_simp) 39 _ rfl 0 _ _ _ hM rfl rfl _ Try.underlying39 rfl sz_Bound ?_) | (refine wpList_loadg_mem (by go_simp) 39 _ rfl 1 _ _ _ hM rfl rfl _ Try.underlying39 rfl sz_Bound ?_))
          | ((with_reducible refine at_store_ (T := 39) ?_); first | (refine wpList_store_mem rfl 39 _ _ rfl 0 _ _ _ _ hM rfl rfl rfl rfl sz_Bound rfl ?_; clear hM; intro W hM; simp only [List.set_cons_zero] at hM) | (refine wpList_store_mem rfl 39 _ _ rfl 1 _ _ _ _ hM rfl rfl rfl rfl sz_Bound rfl ?_; clear hM; intro W hM; simp only [List.set_cons_succ, List.set_cons_zero] at hM)))
  have hc := hM.cells 0 rfl
  have hd := hM.cells 1 rfl
  have hlt := hM.lt 0 rfl
  have hlu := hM.lt 1 rfl
  simp only [cBound] at hc hd
  go_wp2_with (first | ((with_reducible refine at_load_ (T := 37) ?_); first | (refine wpList_loads_mem (by go_simp) _ _ rfl 0 _ 3 _ _ [.int .u32 ra, .int .i64 rp] hM rfl rfl rfl _ Try.underlying37 rfl sz_End ?_) | (refine wpList_loads_mem (by go_simp) _ _ rfl 1 _ 3 _ _ [.int .u32 ra, .int .i64 rp] hM rfl rfl rfl _ Try.underlying37 rfl sz_End ?_)) | ((with_reducible refine at_ne_ ?_); refine wpList_ne_mem (by go_simp) _ _ _ _ rfl _ _ rfl rfl eg_End true (fun W => eqT_End ⟨ra, rp⟩ W) ?_))
  go_ret
  exact ⟨ret_bool HV.out.symm, hM.b⟩
set_option maxRecDepth 100000 in
set_option maxHeartbeats 2000000 in
theorem pclash_8 {pr la lp ra rp ow ow' : Int} (w : World) (h0 : la ≠ 0) : Calls Try.prog 35 #[.agg (cBound ⟨pr, la, lp, ra, rp, true, ow⟩).toArray, .agg (cBound ⟨pr, 0, lp, ra, rp, false, ow'⟩).toArray] w fun e w' => e = .returned (.bool (pClash ⟨pr, la, lp, ra, rp, true, ow⟩ ⟨pr, 0, lp, ra, rp, false, ow'⟩)) ∧ Below w.heap.size w w' := by
  have hM := Mem.nil w
  have HV := Lib.hid (show pClash ⟨pr, la, lp, ra, rp, true, ow⟩ ⟨pr, 0, lp, ra, rp, false, ow'⟩ = true by
    unfold pClash pSame pShare
    simp [h0])
  have e0 : (la == 0) = false := by simp; omega
  have e1 : (la != 0) = true := by simp; omega
  clear h0
  go_enter Try.func35, Try.ntmps35
  go_upto_region 1 with         (first
          | go_skip
          | ((with_reducible refine at_box_ ?_); refine wpList_box_mem rfl _ _ rfl _ rfl hM ?_; clear hM; intro gb W hM; first | (simp only [List.nil_append] at hM) | (simp only [List.cons_append, List.nil_append] at hM))
          | ((with_reducible refine at_alloc_ (T := 39) ?_); refine wpList_alloc_mem rfl 39 rfl _ zv_Bound _ rfl hM ?_; clear hM; intro gb W hM; first | (simp only [List.nil_append] at hM) | (simp only [List.cons_append, List.nil_append] at hM))
          | ((with_reducible refine at_load_ (T := 39) ?_); refine at_wanted_ (by rfl) ?_; first | (refine wpList_loadg_mem (by go_simp) 39 _ rfl 0 _ _ _ hM rfl rfl _ Try.underlying39 rfl sz_Bound ?_) | (refine wpList_loadg_mem (by go_simp) 39 _ rfl 1 _ _ _ hM rfl rfl _ Try.underlying39 rfl sz_Bound ?_))
          | ((with_reducible refine at_store_ (T := 39) ?_); first | (refine wpList_store_mem rfl 39 _ _ rfl 0 _ _ _ _ hM rfl rfl rfl rfl sz_Bound rfl ?_; clear hM; intro W hM; simp only [List.set_cons_zero] at hM) | (refine wpList_store_mem rfl 39 _ _ rfl 1 _ _ _ _ hM rfl rfl rfl rfl sz_Bound rfl ?_; clear hM; intro W hM; simp only [List.set_cons_succ, List.set_cons_zero] at hM)))
  have hc := hM.cells 0 rfl
  have hd := hM.cells 1 rfl
  have hlt := hM.lt 0 rfl
  have hlu := hM.lt 1 rfl
  simp only [cBound] at hc hd
  go_wp2_with (first | ((with_reducible refine at_load_ (T := 37) ?_); first | (refine wpList_loads_mem (by go_simp) _ _ rfl 0 _ 3 _ _ [.int .u32 ra, .int .i64 rp] hM rfl rfl rfl _ Try.underlying37 rfl sz_End ?_) | (refine wpList_loads_mem (by go_simp) _ _ rfl 1 _ 3 _ _ [.int .u32 ra, .int .i64 rp] hM rfl rfl rfl _ Try.underlying37 rfl sz_End ?_)) | ((with_reducible refine at_ne_ ?_); refine wpList_ne_mem (by go_simp) _ _ _ _ rfl _ _ rfl rfl eg_End true (fun W => eqT_End ⟨ra, rp⟩ W) ?_))
  go_ret
  exact ⟨ret_bool HV.out.symm, hM.b⟩
set_option maxRecDepth 100000 in
set_option maxHeartbeats 2000000 in
theorem pclash_9 {pr la lp ra rp ow ow' : Int} (w : World) (h0 : la ≠ 0) : Calls Try.prog 35 #[.agg (cBound ⟨pr, la, lp, ra, rp, true, ow⟩).toArray, .agg (cBound ⟨pr, 0, lp, ra, rp, true, ow'⟩).toArray] w fun e w' => e = .returned (.bool (pClash ⟨pr, la, lp, ra, rp, true, ow⟩ ⟨pr, 0, lp, ra, rp, true, ow'⟩)) ∧ Below w.heap.size w w' := by
  have hM := Mem.nil w
  have HV := Lib.hid (show pClash ⟨pr, la, lp, ra, rp, true, ow⟩ ⟨pr, 0, lp, ra, rp, true, ow'⟩ = true by
    unfold pClash pSame pShare
    simp [h0])
  have e0 : (la == 0) = false := by simp; omega
  have e1 : (la != 0) = true := by simp; omega
  clear h0
  go_enter Try.func35, Try.ntmps35
  go_upto_region 1 with         (first
          | go_skip
          | ((with_reducible refine at_box_ ?_); refine wpList_box_mem rfl _ _ rfl _ rfl hM ?_; clear hM; intro gb W hM; first | (simp only [List.nil_append] at hM) | (simp only [List.cons_append, List.nil_append] at hM))
          | ((with_reducible refine at_alloc_ (T := 39) ?_); refine wpList_alloc_mem rfl 39 rfl _ zv_Bound _ rfl hM ?_; clear hM; intro gb W hM; first | (simp only [List.nil_append] at hM) | (simp only [List.cons_append, List.nil_append] at hM))
          | ((with_reducible refine at_load_ (T := 39) ?_); refine at_wanted_ (by rfl) ?_; first | (refine wpList_loadg_mem (by go_simp) 39 _ rfl 0 _ _ _ hM rfl rfl _ Try.underlying39 rfl sz_Bound ?_) | (refine wpList_loadg_mem (by go_simp) 39 _ rfl 1 _ _ _ hM rfl rfl _ Try.underlying39 rfl sz_Bound ?_))
          | ((with_reducible refine at_store_ (T := 39) ?_); first | (refine wpList_store_mem rfl 39 _ _ rfl 0 _ _ _ _ hM rfl rfl rfl rfl sz_Bound rfl ?_; clear hM; intro W hM; simp only [List.set_cons_zero] at hM) | (refine wpList_store_mem rfl 39 _ _ rfl 1 _ _ _ _ hM rfl rfl rfl rfl sz_Bound rfl ?_; clear hM; intro W hM; simp only [List.set_cons_succ, List.set_cons_zero] at hM)))
  have hc := hM.cells 0 rfl
  have hd := hM.cells 1 rfl
  have hlt := hM.lt 0 rfl
  have hlu := hM.lt 1 rfl
  simp only [cBound] at hc hd
  go_wp2_with (first | ((with_reducible refine at_load_ (T := 37) ?_); first | (refine wpList_loads_mem (by go_simp) _ _ rfl 0 _ 3 _ _ [.int .u32 ra, .int .i64 rp] hM rfl rfl rfl _ Try.underlying37 rfl sz_End ?_) | (refine wpList_loads_mem (by go_simp) _ _ rfl 1 _ 3 _ _ [.int .u32 ra, .int .i64 rp] hM rfl rfl rfl _ Try.underlying37 rfl sz_End ?_)) | ((with_reducible refine at_ne_ ?_); refine wpList_ne_mem (by go_simp) _ _ _ _ rfl _ _ rfl rfl eg_End true (fun W => eqT_End ⟨ra, rp⟩ W) ?_))
  go_ret
  exact ⟨ret_bool HV.out.symm, hM.b⟩
set_option maxRecDepth 100000 in
set_option maxHeartbeats 2000000 in
theorem pclash_10 {pr la lp ra rp ow ow' : Int} {sh' : Bool} (w : World)  : Calls Try.prog 35 #[.agg (cBound ⟨pr, la, lp, ra, rp, false, ow⟩).toArray, .agg (cBound ⟨pr, la, lp, ra, rp, sh', ow'⟩).toArray] w fun e w' => e = .returned (.bool (pClash ⟨pr, la, lp, ra, rp, false, ow⟩ ⟨pr, la, lp, ra, rp, sh', ow'⟩)) ∧ Below w.heap.size w w' := by
  have hM := Mem.nil w
  have HV := Lib.hid (show pClash ⟨pr, la, lp, ra, rp, false, ow⟩ ⟨pr, la, lp, ra, rp, sh', ow'⟩ = true by
    unfold pClash pSame pShare
    simp)

  go_enter Try.func35, Try.ntmps35
  go_upto_region 1 with         (first
          | go_skip
          | ((with_reducible refine at_box_ ?_); refine wpList_box_mem rfl _ _ rfl _ rfl hM ?_; clear hM; intro gb W hM; first | (simp only [List.nil_append] at hM) | (simp only [List.cons_append, List.nil_append] at hM))
          | ((with_reducible refine at_alloc_ (T := 39) ?_); refine wpList_alloc_mem rfl 39 rfl _ zv_Bound _ rfl hM ?_; clear hM; intro gb W hM; first | (simp only [List.nil_append] at hM) | (simp only [List.cons_append, List.nil_append] at hM))
          | ((with_reducible refine at_load_ (T := 39) ?_); refine at_wanted_ (by rfl) ?_; first | (refine wpList_loadg_mem (by go_simp) 39 _ rfl 0 _ _ _ hM rfl rfl _ Try.underlying39 rfl sz_Bound ?_) | (refine wpList_loadg_mem (by go_simp) 39 _ rfl 1 _ _ _ hM rfl rfl _ Try.underlying39 rfl sz_Bound ?_))
          | ((with_reducible refine at_store_ (T := 39) ?_); first | (refine wpList_store_mem rfl 39 _ _ rfl 0 _ _ _ _ hM rfl rfl rfl rfl sz_Bound rfl ?_; clear hM; intro W hM; simp only [List.set_cons_zero] at hM) | (refine wpList_store_mem rfl 39 _ _ rfl 1 _ _ _ _ hM rfl rfl rfl rfl sz_Bound rfl ?_; clear hM; intro W hM; simp only [List.set_cons_succ, List.set_cons_zero] at hM)))
  have hc := hM.cells 0 rfl
  have hd := hM.cells 1 rfl
  have hlt := hM.lt 0 rfl
  have hlu := hM.lt 1 rfl
  simp only [cBound] at hc hd
  go_wp2_with (first | ((with_reducible refine at_load_ (T := 37) ?_); first | (refine wpList_loads_mem (by go_simp) _ _ rfl 0 _ 3 _ _ [.int .u32 ra, .int .i64 rp] hM rfl rfl rfl _ Try.underlying37 rfl sz_End ?_) | (refine wpList_loads_mem (by go_simp) _ _ rfl 1 _ 3 _ _ [.int .u32 ra, .int .i64 rp] hM rfl rfl rfl _ Try.underlying37 rfl sz_End ?_)) | ((with_reducible refine at_ne_ ?_); refine wpList_ne_mem (by go_simp) _ _ _ _ rfl _ _ rfl rfl eg_End true (fun W => eqT_End ⟨ra, rp⟩ W) ?_))
  go_ret
  exact ⟨ret_bool HV.out.symm, hM.b⟩
set_option maxRecDepth 100000 in
set_option maxHeartbeats 2000000 in
theorem pclash_11 {pr la lp ra rp ow ow' : Int} (w : World)  : Calls Try.prog 35 #[.agg (cBound ⟨pr, la, lp, ra, rp, true, ow⟩).toArray, .agg (cBound ⟨pr, la, lp, ra, rp, false, ow'⟩).toArray] w fun e w' => e = .returned (.bool (pClash ⟨pr, la, lp, ra, rp, true, ow⟩ ⟨pr, la, lp, ra, rp, false, ow'⟩)) ∧ Below w.heap.size w w' := by
  have hM := Mem.nil w
  have HV := Lib.hid (show pClash ⟨pr, la, lp, ra, rp, true, ow⟩ ⟨pr, la, lp, ra, rp, false, ow'⟩ = true by
    unfold pClash pSame pShare
    simp)

  go_enter Try.func35, Try.ntmps35
  go_upto_region 1 with         (first
          | go_skip
          | ((with_reducible refine at_box_ ?_); refine wpList_box_mem rfl _ _ rfl _ rfl hM ?_; clear hM; intro gb W hM; first | (simp only [List.nil_append] at hM) | (simp only [List.cons_append, List.nil_append] at hM))
          | ((with_reducible refine at_alloc_ (T := 39) ?_); refine wpList_alloc_mem rfl 39 rfl _ zv_Bound _ rfl hM ?_; clear hM; intro gb W hM; first | (simp only [List.nil_append] at hM) | (simp only [List.cons_append, List.nil_append] at hM))
          | ((with_reducible refine at_load_ (T := 39) ?_); refine at_wanted_ (by rfl) ?_; first | (refine wpList_loadg_mem (by go_simp) 39 _ rfl 0 _ _ _ hM rfl rfl _ Try.underlying39 rfl sz_Bound ?_) | (refine wpList_loadg_mem (by go_simp) 39 _ rfl 1 _ _ _ hM rfl rfl _ Try.underlying39 rfl sz_Bound ?_))
          | ((with_reducible refine at_store_ (T := 39) ?_); first | (refine wpList_store_mem rfl 39 _ _ rfl 0 _ _ _ _ hM rfl rfl rfl rfl sz_Bound rfl ?_; clear hM; intro W hM; simp only [List.set_cons_zero] at hM) | (refine wpList_store_mem rfl 39 _ _ rfl 1 _ _ _ _ hM rfl rfl rfl rfl sz_Bound rfl ?_; clear hM; intro W hM; simp only [List.set_cons_succ, List.set_cons_zero] at hM)))
  have hc := hM.cells 0 rfl
  have hd := hM.cells 1 rfl
  have hlt := hM.lt 0 rfl
  have hlu := hM.lt 1 rfl
  simp only [cBound] at hc hd
  go_wp2_with (first | ((with_reducible refine at_load_ (T := 37) ?_); first | (refine wpList_loads_mem (by go_simp) _ _ rfl 0 _ 3 _ _ [.int .u32 ra, .int .i64 rp] hM rfl rfl rfl _ Try.underlying37 rfl sz_End ?_) | (refine wpList_loads_mem (by go_simp) _ _ rfl 1 _ 3 _ _ [.int .u32 ra, .int .i64 rp] hM rfl rfl rfl _ Try.underlying37 rfl sz_End ?_)) | ((with_reducible refine at_ne_ ?_); refine wpList_ne_mem (by go_simp) _ _ _ _ rfl _ _ rfl rfl eg_End true (fun W => eqT_End ⟨ra, rp⟩ W) ?_))
  go_ret
  exact ⟨ret_bool HV.out.symm, hM.b⟩
set_option maxRecDepth 100000 in
set_option maxHeartbeats 2000000 in
theorem pclash_12 {pr la lp ra rp ow ow' : Int} (w : World) (h0 : rp ≠ 0) : Calls Try.prog 35 #[.agg (cBound ⟨pr, la, lp, ra, rp, true, ow⟩).toArray, .agg (cBound ⟨pr, la, lp, ra, rp, true, ow'⟩).toArray] w fun e w' => e = .returned (.bool (pClash ⟨pr, la, lp, ra, rp, true, ow⟩ ⟨pr, la, lp, ra, rp, true, ow'⟩)) ∧ Below w.heap.size w w' := by
  have hM := Mem.nil w
  have HV := Lib.hid (show pClash ⟨pr, la, lp, ra, rp, true, ow⟩ ⟨pr, la, lp, ra, rp, true, ow'⟩ = true by
    unfold pClash pSame pShare
    simp [h0])
  have e0 : (rp == 0) = false := by simp; omega
  clear h0
  go_enter Try.func35, Try.ntmps35
  go_upto_region 1 with         (first
          | go_skip
          | ((with_reducible refine at_box_ ?_); refine wpList_box_mem rfl _ _ rfl _ rfl hM ?_; clear hM; intro gb W hM; first | (simp only [List.nil_append] at hM) | (simp only [List.cons_append, List.nil_append] at hM))
          | ((with_reducible refine at_alloc_ (T := 39) ?_); refine wpList_alloc_mem rfl 39 rfl _ zv_Bound _ rfl hM ?_; clear hM; intro gb W hM; first | (simp only [List.nil_append] at hM) | (simp only [List.cons_append, List.nil_append] at hM))
          | ((with_reducible refine at_load_ (T := 39) ?_); refine at_wanted_ (by rfl) ?_; first | (refine wpList_loadg_mem (by go_simp) 39 _ rfl 0 _ _ _ hM rfl rfl _ Try.underlying39 rfl sz_Bound ?_) | (refine wpList_loadg_mem (by go_simp) 39 _ rfl 1 _ _ _ hM rfl rfl _ Try.underlying39 rfl sz_Bound ?_))
          | ((with_reducible refine at_store_ (T := 39) ?_); first | (refine wpList_store_mem rfl 39 _ _ rfl 0 _ _ _ _ hM rfl rfl rfl rfl sz_Bound rfl ?_; clear hM; intro W hM; simp only [List.set_cons_zero] at hM) | (refine wpList_store_mem rfl 39 _ _ rfl 1 _ _ _ _ hM rfl rfl rfl rfl sz_Bound rfl ?_; clear hM; intro W hM; simp only [List.set_cons_succ, List.set_cons_zero] at hM)))
  have hc := hM.cells 0 rfl
  have hd := hM.cells 1 rfl
  have hlt := hM.lt 0 rfl
  have hlu := hM.lt 1 rfl
  simp only [cBound] at hc hd
  go_wp2_with (first | ((with_reducible refine at_load_ (T := 37) ?_); first | (refine wpList_loads_mem (by go_simp) _ _ rfl 0 _ 3 _ _ [.int .u32 ra, .int .i64 rp] hM rfl rfl rfl _ Try.underlying37 rfl sz_End ?_) | (refine wpList_loads_mem (by go_simp) _ _ rfl 1 _ 3 _ _ [.int .u32 ra, .int .i64 rp] hM rfl rfl rfl _ Try.underlying37 rfl sz_End ?_)) | ((with_reducible refine at_ne_ ?_); refine wpList_ne_mem (by go_simp) _ _ _ _ rfl _ _ rfl rfl eg_End true (fun W => eqT_End ⟨ra, rp⟩ W) ?_))
  go_ret
  exact ⟨ret_bool HV.out.symm, hM.b⟩
set_option maxRecDepth 100000 in
set_option maxHeartbeats 2000000 in
theorem pclash_13 {pr la lp ra ow ow' : Int} (w : World)  : Calls Try.prog 35 #[.agg (cBound ⟨pr, la, lp, ra, 0, true, ow⟩).toArray, .agg (cBound ⟨pr, la, lp, ra, 0, true, ow'⟩).toArray] w fun e w' => e = .returned (.bool (pClash ⟨pr, la, lp, ra, 0, true, ow⟩ ⟨pr, la, lp, ra, 0, true, ow'⟩)) ∧ Below w.heap.size w w' := by
  have hM := Mem.nil w
  have HV := Lib.hid (show pClash ⟨pr, la, lp, ra, 0, true, ow⟩ ⟨pr, la, lp, ra, 0, true, ow'⟩ = false by
    unfold pClash pSame pShare
    simp)

  go_enter Try.func35, Try.ntmps35
  go_upto_region 1 with         (first
          | go_skip
          | ((with_reducible refine at_box_ ?_); refine wpList_box_mem rfl _ _ rfl _ rfl hM ?_; clear hM; intro gb W hM; first | (simp only [List.nil_append] at hM) | (simp only [List.cons_append, List.nil_append] at hM))
          | ((with_reducible refine at_alloc_ (T := 39) ?_); refine wpList_alloc_mem rfl 39 rfl _ zv_Bound _ rfl hM ?_; clear hM; intro gb W hM; first | (simp only [List.nil_append] at hM) | (simp only [List.cons_append, List.nil_append] at hM))
          | ((with_reducible refine at_load_ (T := 39) ?_); refine at_wanted_ (by rfl) ?_; first | (refine wpList_loadg_mem (by go_simp) 39 _ rfl 0 _ _ _ hM rfl rfl _ Try.underlying39 rfl sz_Bound ?_) | (refine wpList_loadg_mem (by go_simp) 39 _ rfl 1 _ _ _ hM rfl rfl _ Try.underlying39 rfl sz_Bound ?_))
          | ((with_reducible refine at_store_ (T := 39) ?_); first | (refine wpList_store_mem rfl 39 _ _ rfl 0 _ _ _ _ hM rfl rfl rfl rfl sz_Bound rfl ?_; clear hM; intro W hM; simp only [List.set_cons_zero] at hM) | (refine wpList_store_mem rfl 39 _ _ rfl 1 _ _ _ _ hM rfl rfl rfl rfl sz_Bound rfl ?_; clear hM; intro W hM; simp only [List.set_cons_succ, List.set_cons_zero] at hM)))
  have hc := hM.cells 0 rfl
  have hd := hM.cells 1 rfl
  have hlt := hM.lt 0 rfl
  have hlu := hM.lt 1 rfl
  simp only [cBound] at hc hd
  go_wp2_with (first | ((with_reducible refine at_load_ (T := 37) ?_); first | (refine wpList_loads_mem (by go_simp) _ _ rfl 0 _ 3 _ _ [.int .u32 ra, .int .i64 0] hM rfl rfl rfl _ Try.underlying37 rfl sz_End ?_) | (refine wpList_loads_mem (by go_simp) _ _ rfl 1 _ 3 _ _ [.int .u32 ra, .int .i64 0] hM rfl rfl rfl _ Try.underlying37 rfl sz_End ?_)) | ((with_reducible refine at_ne_ ?_); refine wpList_ne_mem (by go_simp) _ _ _ _ rfl _ _ rfl rfl eg_End true (fun W => eqT_End ⟨ra, 0⟩ W) ?_))
  go_ret
  exact ⟨ret_bool HV.out.symm, hM.b⟩
end Go.Proofs.Ytppjmhkecogbcaa
