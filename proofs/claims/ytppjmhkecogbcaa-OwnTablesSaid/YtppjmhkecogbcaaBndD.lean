/- Contracts of ports: clash. Written by my genbc.py. -/
import Derived.Test.YtppjmhkecogbcaaBndC
namespace Go.Proofs.Ytppjmhkecogbcaa
open Go.RowKit Go.Lib
set_option linter.unusedVariables false
set_option linter.unusedSimpArgs false

set_option maxRecDepth 100000 in
set_option maxHeartbeats 2000000 in
theorem pclash_0 {pr la lp ra rp ow pr' la' lp' ra' rp' ow' : Int} {sh sh' : Bool} (w : World) (h0 : pr ≠ pr') : Calls Try.prog 35 #[.agg (cBound ⟨pr, la, lp, ra, rp, sh, ow⟩).toArray, .agg (cBound ⟨pr', la', lp', ra', rp', sh', ow'⟩).toArray] w fun e w' => e = .returned (.bool (pClash ⟨pr, la, lp, ra, rp, sh, ow⟩ ⟨pr', la', lp', ra', rp', sh', ow'⟩)) ∧ Below w.heap.size w w' := by
  have hM := Mem.nil w
  have HV := Lib.hid (show pClash ⟨pr, la, lp, ra, rp, sh, ow⟩ ⟨pr', la', lp', ra', rp', sh', ow'⟩ = false by
    unfold pClash pSame pShare
    simp [h0])
  have e0 : (pr != pr') = true := by simp; omega
  clear h0
  go_enter Try.func35, Try.ntmps35
  go_upto_region 1 with         (first
          | go_skip
          | ((with_reducible refine at_box_ ?_); refine wpList_box_mem rfl _ _ rfl _ rfl hM ?_; clear hM; intro gb W hM; first | (simp only [List.nil_append] at hM) | (simp only [List.cons_append, List.nil_append] at hM))
          | ((with_reducible refine at_alloc_ (T := 39) ?_); refine wpList_alloc_mem rfl 39 rfl _ zv_Bound _ rfl hM ?_; clear hM; intro gb W hM; first | (simp only [List.nil_append] at hM) | (simp only [List.cons_append, List.nil_append] at hM))
          | ((with_reducible refine at_load_ (T := 39) ?_); refine at_wanted_ (by rfl) ?_; first | (refine wpList_loadg_mem (by go_simp) 39 _ rfl 0 _ _ _ hM rfl rfl _ Try.underlying39 rfl sz_Bound ?_) | (refine wpList_loadg_mem (by go_simp) 39 _ rfl 1 _ _ _ hM rfl rfl _ Try.underlying39 rfl sz_Bound ?_))
          | ((with_reducible refine at_store_ (T := 39) ?_); first | (refine wpList_store_mem rfl 39 _ _ rfl 0 _ _ _ _ hM rfl rfl rfl rfl sz_Bound rfl ?_; clear hM; intro W hM; simp only [List.set_cons_zero] at hM) | (refine wpList_store_mem rfl 39 _ _ rfl 1 _ _ _ _ hM rfl rfl rfl rfl sz_Bound rfl ?_; clear hM; intro W hM; simp only [List.set_cons_succ, List.set_cons_zero] at hM)))
  have hc := hM.cells 0 rfl
  have hd := hM.cells 1 rfl
  have hlt := hM.lt 0 rfl
  have hlu := hM.lt 1 rfl
  simp only [cBound] at hc hd
  go_wp2_with (first | ((with_reducible refine at_load_ (T := 37) ?_); first | (refine wpList_loads_mem (by go_simp) _ _ rfl 0 _ 3 _ _ [.int .u32 ra, .int .i64 rp] hM rfl rfl rfl _ Try.underlying37 rfl sz_End ?_) | (refine wpList_loads_mem (by go_simp) _ _ rfl 1 _ 3 _ _ [.int .u32 ra, .int .i64 rp] hM rfl rfl rfl _ Try.underlying37 rfl sz_End ?_)) | ((with_reducible refine at_ne_ ?_); refine wpList_ne_mem (by go_simp) _ _ _ _ rfl _ _ rfl rfl eg_End true (fun W => eqT_End ⟨ra, rp⟩ W) ?_))
  go_ret
  exact ⟨ret_bool HV.out.symm, hM.b⟩
set_option maxRecDepth 100000 in
set_option maxHeartbeats 2000000 in
theorem pclash_1 {pr la lp ra rp ow la' lp' ra' rp' ow' : Int} {sh sh' : Bool} (w : World) (h0 : lp ≠ lp') : Calls Try.prog 35 #[.agg (cBound ⟨pr, la, lp, ra, rp, sh, ow⟩).toArray, .agg (cBound ⟨pr, la', lp', ra', rp', sh', ow'⟩).toArray] w fun e w' => e = .returned (.bool (pClash ⟨pr, la, lp, ra, rp, sh, ow⟩ ⟨pr, la', lp', ra', rp', sh', ow'⟩)) ∧ Below w.heap.size w w' := by
  have hM := Mem.nil w
  have HV := Lib.hid (show pClash ⟨pr, la, lp, ra, rp, sh, ow⟩ ⟨pr, la', lp', ra', rp', sh', ow'⟩ = false by
    unfold pClash pSame pShare
    simp [h0])
  have e0 : (lp != lp') = true := by simp; omega
  clear h0
  go_enter Try.func35, Try.ntmps35
  go_upto_region 1 with         (first
          | go_skip
          | ((with_reducible refine at_box_ ?_); refine wpList_box_mem rfl _ _ rfl _ rfl hM ?_; clear hM; intro gb W hM; first | (simp only [List.nil_append] at hM) | (simp only [List.cons_append, List.nil_append] at hM))
          | ((with_reducible refine at_alloc_ (T := 39) ?_); refine wpList_alloc_mem rfl 39 rfl _ zv_Bound _ rfl hM ?_; clear hM; intro gb W hM; first | (simp only [List.nil_append] at hM) | (simp only [List.cons_append, List.nil_append] at hM))
          | ((with_reducible refine at_load_ (T := 39) ?_); refine at_wanted_ (by rfl) ?_; first | (refine wpList_loadg_mem (by go_simp) 39 _ rfl 0 _ _ _ hM rfl rfl _ Try.underlying39 rfl sz_Bound ?_) | (refine wpList_loadg_mem (by go_simp) 39 _ rfl 1 _ _ _ hM rfl rfl _ Try.underlying39 rfl sz_Bound ?_))
          | ((with_reducible refine at_store_ (T := 39) ?_); first | (refine wpList_store_mem rfl 39 _ _ rfl 0 _ _ _ _ hM rfl rfl rfl rfl sz_Bound rfl ?_; clear hM; intro W hM; simp only [List.set_cons_zero] at hM) | (refine wpList_store_mem rfl 39 _ _ rfl 1 _ _ _ _ hM rfl rfl rfl rfl sz_Bound rfl ?_; clear hM; intro W hM; simp only [List.set_cons_succ, List.set_cons_zero] at hM)))
  have hc := hM.cells 0 rfl
  have hd := hM.cells 1 rfl
  have hlt := hM.lt 0 rfl
  have hlu := hM.lt 1 rfl
  simp only [cBound] at hc hd
  go_wp2_with (first | ((with_reducible refine at_load_ (T := 37) ?_); first | (refine wpList_loads_mem (by go_simp) _ _ rfl 0 _ 3 _ _ [.int .u32 ra, .int .i64 rp] hM rfl rfl rfl _ Try.underlying37 rfl sz_End ?_) | (refine wpList_loads_mem (by go_simp) _ _ rfl 1 _ 3 _ _ [.int .u32 ra, .int .i64 rp] hM rfl rfl rfl _ Try.underlying37 rfl sz_End ?_)) | ((with_reducible refine at_ne_ ?_); refine wpList_ne_mem (by go_simp) _ _ _ _ rfl _ _ rfl rfl eg_End true (fun W => eqT_End ⟨ra, rp⟩ W) ?_))
  go_ret
  exact ⟨ret_bool HV.out.symm, hM.b⟩
set_option maxRecDepth 100000 in
set_option maxHeartbeats 2000000 in
theorem pclash_2 {pr la lp ra rp ow la' ra' rp' ow' : Int} {sh sh' : Bool} (w : World) (h0 : KEnd.mk ra rp ≠ KEnd.mk ra' rp') : Calls Try.prog 35 #[.agg (cBound ⟨pr, la, lp, ra, rp, sh, ow⟩).toArray, .agg (cBound ⟨pr, la', lp, ra', rp', sh', ow'⟩).toArray] w fun e w' => e = .returned (.bool (pClash ⟨pr, la, lp, ra, rp, sh, ow⟩ ⟨pr, la', lp, ra', rp', sh', ow'⟩)) ∧ Below w.heap.size w w' := by
  have hM := Mem.nil w
  have HV := Lib.hid (show pClash ⟨pr, la, lp, ra, rp, sh, ow⟩ ⟨pr, la', lp, ra', rp', sh', ow'⟩ = false by
    unfold pClash pSame pShare
    simp [h0]
    intro e1 e2
    exact absurd (by rw [e1, e2]) h0)

  go_enter Try.func35, Try.ntmps35
  go_upto_region 1 with         (first
          | go_skip
          | ((with_reducible refine at_box_ ?_); refine wpList_box_mem rfl _ _ rfl _ rfl hM ?_; clear hM; intro gb W hM; first | (simp only [List.nil_append] at hM) | (simp only [List.cons_append, List.nil_append] at hM))
          | ((with_reducible refine at_alloc_ (T := 39) ?_); refine wpList_alloc_mem rfl 39 rfl _ zv_Bound _ rfl hM ?_; clear hM; intro gb W hM; first | (simp only [List.nil_append] at hM) | (simp only [List.cons_append, List.nil_append] at hM))
          | ((with_reducible refine at_load_ (T := 39) ?_); refine at_wanted_ (by rfl) ?_; first | (refine wpList_loadg_mem (by go_simp) 39 _ rfl 0 _ _ _ hM rfl rfl _ Try.underlying39 rfl sz_Bound ?_) | (refine wpList_loadg_mem (by go_simp) 39 _ rfl 1 _ _ _ hM rfl rfl _ Try.underlying39 rfl sz_Bound ?_))
          | ((with_reducible refine at_store_ (T := 39) ?_); first | (refine wpList_store_mem rfl 39 _ _ rfl 0 _ _ _ _ hM rfl rfl rfl rfl sz_Bound rfl ?_; clear hM; intro W hM; simp only [List.set_cons_zero] at hM) | (refine wpList_store_mem rfl 39 _ _ rfl 1 _ _ _ _ hM rfl rfl rfl rfl sz_Bound rfl ?_; clear hM; intro W hM; simp only [List.set_cons_succ, List.set_cons_zero] at hM)))
  have hc := hM.cells 0 rfl
  have hd := hM.cells 1 rfl
  have hlt := hM.lt 0 rfl
  have hlu := hM.lt 1 rfl
  simp only [cBound] at hc hd
  go_wp2_with (first | ((with_reducible refine at_load_ (T := 37) ?_); first | (refine wpList_loads_mem (by go_simp) _ _ rfl 0 _ 3 _ _ [.int .u32 ra, .int .i64 rp] hM rfl rfl rfl _ Try.underlying37 rfl sz_End ?_) | (refine wpList_loads_mem (by go_simp) _ _ rfl 1 _ 3 _ _ [.int .u32 ra', .int .i64 rp'] hM rfl rfl rfl _ Try.underlying37 rfl sz_End ?_)) | ((with_reducible refine at_ne_ ?_); refine wpList_ne_mem (by go_simp) _ _ _ _ rfl _ _ rfl rfl eg_End false (fun W => eqF_End ⟨ra, rp⟩ ⟨ra', rp'⟩ h0 W) ?_))
  go_ret
  exact ⟨ret_bool HV.out.symm, hM.b⟩
set_option maxRecDepth 100000 in
set_option maxHeartbeats 2000000 in
theorem pclash_3 {pr la lp ra rp ow la' ow' : Int} {sh sh' : Bool} (w : World) (h0 : la ≠ la') (h1 : la ≠ 0) (h2 : la' ≠ 0) : Calls Try.prog 35 #[.agg (cBound ⟨pr, la, lp, ra, rp, sh, ow⟩).toArray, .agg (cBound ⟨pr, la', lp, ra, rp, sh', ow'⟩).toArray] w fun e w' => e = .returned (.bool (pClash ⟨pr, la, lp, ra, rp, sh, ow⟩ ⟨pr, la', lp, ra, rp, sh', ow'⟩)) ∧ Below w.heap.size w w' := by
  have hM := Mem.nil w
  have HV := Lib.hid (show pClash ⟨pr, la, lp, ra, rp, sh, ow⟩ ⟨pr, la', lp, ra, rp, sh', ow'⟩ = false by
    unfold pClash pSame pShare
    simp [h0, h1, h2])
  have e0 : (la == la') = false := by simp; omega
  have e1 : (la != 0) = true := by simp; omega
  have e2 : (la' != 0) = true := by simp; omega
  clear h0 h1 h2
  go_enter Try.func35, Try.ntmps35
  go_upto_region 1 with         (first
          | go_skip
          | ((with_reducible refine at_box_ ?_); refine wpList_box_mem rfl _ _ rfl _ rfl hM ?_; clear hM; intro gb W hM; first | (simp only [List.nil_append] at hM) | (simp only [List.cons_append, List.nil_append] at hM))
          | ((with_reducible refine at_alloc_ (T := 39) ?_); refine wpList_alloc_mem rfl 39 rfl _ zv_Bound _ rfl hM ?_; clear hM; intro gb W hM; first | (simp only [List.nil_append] at hM) | (simp only [List.cons_append, List.nil_append] at hM))
          | ((with_reducible refine at_load_ (T := 39) ?_); refine at_wanted_ (by rfl) ?_; first | (refine wpList_loadg_mem (by go_simp) 39 _ rfl 0 _ _ _ hM rfl rfl _ Try.underlying39 rfl sz_Bound ?_) | (refine wpList_loadg_mem (by go_simp) 39 _ rfl 1 _ _ _ hM rfl rfl _ Try.underlying39 rfl sz_Bound ?_))
          | ((with_reducible refine at_store_ (T := 39) ?_); first | (refine wpList_store_mem rfl 39 _ _ rfl 0 _ _ _ _ hM rfl rfl rfl rfl sz_Bound rfl ?_; clear hM; intro W hM; simp only [List.set_cons_zero] at hM) | (refine wpList_store_mem rfl 39 _ _ rfl 1 _ _ _ _ hM rfl rfl rfl rfl sz_Bound rfl ?_; clear hM; intro W hM; simp only [List.set_cons_succ, List.set_cons_zero] at hM)))
  have hc := hM.cells 0 rfl
  have hd := hM.cells 1 rfl
  have hlt := hM.lt 0 rfl
  have hlu := hM.lt 1 rfl
  simp only [cBound] at hc hd
  go_wp2_with (first | ((with_reducible refine at_load_ (T := 37) ?_); first | (refine wpList_loads_mem (by go_simp) _ _ rfl 0 _ 3 _ _ [.int .u32 ra, .int .i64 rp] hM rfl rfl rfl _ Try.underlying37 rfl sz_End ?_) | (refine wpList_loads_mem (by go_simp) _ _ rfl 1 _ 3 _ _ [.int .u32 ra, .int .i64 rp] hM rfl rfl rfl _ Try.underlying37 rfl sz_End ?_)) | ((with_reducible refine at_ne_ ?_); refine wpList_ne_mem (by go_simp) _ _ _ _ rfl _ _ rfl rfl eg_End true (fun W => eqT_End ⟨ra, rp⟩ W) ?_))
  go_ret
  exact ⟨ret_bool HV.out.symm, hM.b⟩
set_option maxRecDepth 100000 in
set_option maxHeartbeats 2000000 in
theorem pclash_4 {pr lp ra rp ow la' ow' : Int} {sh' : Bool} (w : World) (h0 : la' ≠ 0) (h1 : 0 ≠ la') : Calls Try.prog 35 #[.agg (cBound ⟨pr, 0, lp, ra, rp, false, ow⟩).toArray, .agg (cBound ⟨pr, la', lp, ra, rp, sh', ow'⟩).toArray] w fun e w' => e = .returned (.bool (pClash ⟨pr, 0, lp, ra, rp, false, ow⟩ ⟨pr, la', lp, ra, rp, sh', ow'⟩)) ∧ Below w.heap.size w w' := by
  have hM := Mem.nil w
  have HV := Lib.hid (show pClash ⟨pr, 0, lp, ra, rp, false, ow⟩ ⟨pr, la', lp, ra, rp, sh', ow'⟩ = true by
    unfold pClash pSame pShare
    simp [h0, h1])
  have e0 : ((0 : Int) == la') = false := by simp; omega
  have e1 : (la' != 0) = true := by simp; omega
  clear h0 h1
  go_enter Try.func35, Try.ntmps35
  go_upto_region 1 with         (first
          | go_skip
          | ((with_reducible refine at_box_ ?_); refine wpList_box_mem rfl _ _ rfl _ rfl hM ?_; clear hM; intro gb W hM; first | (simp only [List.nil_append] at hM) | (simp only [List.cons_append, List.nil_append] at hM))
          | ((with_reducible refine at_alloc_ (T := 39) ?_); refine wpList_alloc_mem rfl 39 rfl _ zv_Bound _ rfl hM ?_; clear hM; intro gb W hM; first | (simp only [List.nil_append] at hM) | (simp only [List.cons_append, List.nil_append] at hM))
          | ((with_reducible refine at_load_ (T := 39) ?_); refine at_wanted_ (by rfl) ?_; first | (refine wpList_loadg_mem (by go_simp) 39 _ rfl 0 _ _ _ hM rfl rfl _ Try.underlying39 rfl sz_Bound ?_) | (refine wpList_loadg_mem (by go_simp) 39 _ rfl 1 _ _ _ hM rfl rfl _ Try.underlying39 rfl sz_Bound ?_))
          | ((with_reducible refine at_store_ (T := 39) ?_); first | (refine wpList_store_mem rfl 39 _ _ rfl 0 _ _ _ _ hM rfl rfl rfl rfl sz_Bound rfl ?_; clear hM; intro W hM; simp only [List.set_cons_zero] at hM) | (refine wpList_store_mem rfl 39 _ _ rfl 1 _ _ _ _ hM rfl rfl rfl rfl sz_Bound rfl ?_; clear hM; intro W hM; simp only [List.set_cons_succ, List.set_cons_zero] at hM)))
  have hc := hM.cells 0 rfl
  have hd := hM.cells 1 rfl
  have hlt := hM.lt 0 rfl
  have hlu := hM.lt 1 rfl
  simp only [cBound] at hc hd
  go_wp2_with (first | ((with_reducible refine at_load_ (T := 37) ?_); first | (refine wpList_loads_mem (by go_simp) _ _ rfl 0 _ 3 _ _ [.int .u32 ra, .int .i64 rp] hM rfl rfl rfl _ Try.underlying37 rfl sz_End ?_) | (refine wpList_loads_mem (by go_simp) _ _ rfl 1 _ 3 _ _ [.int .u32 ra, .int .i64 rp] hM rfl rfl rfl _ Try.underlying37 rfl sz_End ?_)) | ((with_reducible refine at_ne_ ?_); refine wpList_ne_mem (by go_simp) _ _ _ _ rfl _ _ rfl rfl eg_End true (fun W => eqT_End ⟨ra, rp⟩ W) ?_))
  go_ret
  exact ⟨ret_bool HV.out.symm, hM.b⟩
set_option maxRecDepth 100000 in
set_option maxHeartbeats 2000000 in
theorem pclash_5 {pr lp ra rp ow la' ow' : Int} (w : World) (h0 : la' ≠ 0) (h1 : 0 ≠ la') : Calls Try.prog 35 #[.agg (cBound ⟨pr, 0, lp, ra, rp, true, ow⟩).toArray, .agg (cBound ⟨pr, la', lp, ra, rp, false, ow'⟩).toArray] w fun e w' => e = .returned (.bool (pClash ⟨pr, 0, lp, ra, rp, true, ow⟩ ⟨pr, la', lp, ra, rp, false, ow'⟩)) ∧ Below w.heap.size w w' := by
  have hM := Mem.nil w
  have HV := Lib.hid (show pClash ⟨pr, 0, lp, ra, rp, true, ow⟩ ⟨pr, la', lp, ra, rp, false, ow'⟩ = true by
    unfold pClash pSame pShare
    simp [h0, h1])
  have e0 : ((0 : Int) == la') = false := by simp; omega
  have e1 : (la' != 0) = true := by simp; omega
  clear h0 h1
  go_enter Try.func35, Try.ntmps35
  go_upto_region 1 with         (first
          | go_skip
          | ((with_reducible refine at_box_ ?_); refine wpList_box_mem rfl _ _ rfl _ rfl hM ?_; clear hM; intro gb W hM; first | (simp only [List.nil_append] at hM) | (simp only [List.cons_append, List.nil_append] at hM))
          | ((with_reducible refine at_alloc_ (T := 39) ?_); refine wpList_alloc_mem rfl 39 rfl _ zv_Bound _ rfl hM ?_; clear hM; intro gb W hM; first | (simp only [List.nil_append] at hM) | (simp only [List.cons_append, List.nil_append] at hM))
          | ((with_reducible refine at_load_ (T := 39) ?_); refine at_wanted_ (by rfl) ?_; first | (refine wpList_loadg_mem (by go_simp) 39 _ rfl 0 _ _ _ hM rfl rfl _ Try.underlying39 rfl sz_Bound ?_) | (refine wpList_loadg_mem (by go_simp) 39 _ rfl 1 _ _ _ hM rfl rfl _ Try.underlying39 rfl sz_Bound ?_))
          | ((with_reducible refine at_store_ (T := 39) ?_); first | (refine wpList_store_mem rfl 39 _ _ rfl 0 _ _ _ _ hM rfl rfl rfl rfl sz_Bound rfl ?_; clear hM; intro W hM; simp only [List.set_cons_zero] at hM) | (refine wpList_store_mem rfl 39 _ _ rfl 1 _ _ _ _ hM rfl rfl rfl rfl sz_Bound rfl ?_; clear hM; intro W hM; simp only [List.set_cons_succ, List.set_cons_zero] at hM)))
  have hc := hM.cells 0 rfl
  have hd := hM.cells 1 rfl
  have hlt := hM.lt 0 rfl
  have hlu := hM.lt 1 rfl
  simp only [cBound] at hc hd
  go_wp2_with (first | ((with_reducible refine at_load_ (T := 37) ?_); first | (refine wpList_loads_mem (by go_simp) _ _ rfl 0 _ 3 _ _ [.int .u32 ra, .int .i64 rp] hM rfl rfl rfl _ Try.underlying37 rfl sz_End ?_) | (refine wpList_loads_mem (by go_simp) _ _ rfl 1 _ 3 _ _ [.int .u32 ra, .int .i64 rp] hM rfl rfl rfl _ Try.underlying37 rfl sz_End ?_)) | ((with_reducible refine at_ne_ ?_); refine wpList_ne_mem (by go_simp) _ _ _ _ rfl _ _ rfl rfl eg_End true (fun W => eqT_End ⟨ra, rp⟩ W) ?_))
  go_ret
  exact ⟨ret_bool HV.out.symm, hM.b⟩
set_option maxRecDepth 100000 in
set_option maxHeartbeats 2000000 in
theorem pclash_6 {pr lp ra rp ow la' ow' : Int} (w : World) (h0 : la' ≠ 0) (h1 : 0 ≠ la') : Calls Try.prog 35 #[.agg (cBound ⟨pr, 0, lp, ra, rp, true, ow⟩).toArray, .agg (cBound ⟨pr, la', lp, ra, rp, true, ow'⟩).toArray] w fun e w' => e = .returned (.bool (pClash ⟨pr, 0, lp, ra, rp, true, ow⟩ ⟨pr, la', lp, ra, rp, true, ow'⟩)) ∧ Below w.heap.size w w' := by
  have hM := Mem.nil w
  have HV := Lib.hid (show pClash ⟨pr, 0, lp, ra, rp, true, ow⟩ ⟨pr, la', lp, ra, rp, true, ow'⟩ = true by
    unfold pClash pSame pShare
    simp [h0, h1])
  have e0 : ((0 : Int) == la') = false := by simp; omega
  have e1 : (la' != 0) = true := by simp; omega
  clear h0 h1
  go_enter Try.func35, Try.ntmps35
  go_upto_region 1 with         (first
          | go_skip
          | ((with_reducible refine at_box_ ?_); refine wpList_box_mem rfl _ _ rfl _ rfl hM ?_; clear hM; intro gb W hM; first | (simp only [List.nil_append] at hM) | (simp only [List.cons_append, List.nil_append] at hM))
          | ((with_reducible refine at_alloc_ (T := 39) ?_); refine wpList_alloc_mem rfl 39 rfl _ zv_Bound _ rfl hM ?_; clear hM; intro gb W hM; first | (simp only [List.nil_append] at hM) | (simp only [List.cons_append, List.nil_append] at hM))
          | ((with_reducible refine at_load_ (T := 39) ?_); refine at_wanted_ (by rfl) ?_; first | (refine wpList_loadg_mem (by go_simp) 39 _ rfl 0 _ _ _ hM rfl rfl _ Try.underlying39 rfl sz_Bound ?_) | (refine wpList_loadg_mem (by go_simp) 39 _ rfl 1 _ _ _ hM rfl rfl _ Try.underlying39 rfl sz_Bound ?_))
          | ((with_reducible refine at_store_ (T := 39) ?_); first | (refine wpList_store_mem rfl 39 _ _ rfl 0 _ _ _ _ hM rfl rfl rfl rfl sz_Bound rfl ?_; clear hM; intro W hM; simp only [List.set_cons_zero] at hM) | (refine wpList_store_mem rfl 39 _ _ rfl 1 _ _ _ _ hM rfl rfl rfl rfl sz_Bound rfl ?_; clear hM; intro W hM; simp only [List.set_cons_succ, List.set_cons_zero] at hM)))
  have hc := hM.cells 0 rfl
  have hd := hM.cells 1 rfl
  have hlt := hM.lt 0 rfl
  have hlu := hM.lt 1 rfl
  simp only [cBound] at hc hd
  go_wp2_with (first | ((with_reducible refine at_load_ (T := 37) ?_); first | (refine wpList_loads_mem (by go_simp) _ _ rfl 0 _ 3 _ _ [.int .u32 ra, .int .i64 rp] hM rfl rfl rfl _ Try.underlying37 rfl sz_End ?_) | (refine wpList_loads_mem (by go_simp) _ _ rfl 1 _ 3 _ _ [.int .u32 ra, .int .i64 rp] hM rfl rfl rfl _ Try.underlying37 rfl sz_End ?_)) | ((with_reducible refine at_ne_ ?_); refine wpList_ne_mem (by go_simp) _ _ _ _ rfl _ _ rfl rfl eg_End true (fun W => eqT_End ⟨ra, rp⟩ W) ?_))
  go_ret
  exact ⟨ret_bool HV.out.symm, hM.b⟩
end Go.Proofs.Ytppjmhkecogbcaa
