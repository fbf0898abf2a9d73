/- What ConnBoth needs, a part: WConnBoth. -/
import Derived.Deep.CutBlock
import Derived.Test.YtfpifahkpkjfgaaMConnBoth1
/- conn: the walk of ConnBoth. Written by my gencn.py. -/
namespace Go.Proofs.Ytfpifahkpkjfgaa
open Go.RowKit Go.Lib
set_option linter.unusedVariables false
set_option linter.unusedSimpArgs false


set_option maxRecDepth 100000 in
set_option maxHeartbeats 8000000 in
theorem w_ConnBoth (a0 : Int) (a1 : Int) (a2 : Int) (a3 : Int) (w : World) (ha0 : 0 ≤ a0) (ha0' : a0 ≤ 4294967295) (ha1 : 0 ≤ a1) (ha1' : a1 ≤ 4294967295) (ha2 : -9223372036854775808 ≤ a2) (ha2' : a2 ≤ 9223372036854775807) (ha3 : -9223372036854775808 ≤ a3) (ha3' : a3 ≤ 9223372036854775807) :
    Calls Try.prog 4 #[.int .u32 a0, .int .u32 a1, .int .i64 a2, .int .i64 a3] w fun e w' => e = .returned (.bool true) ∧ Below w.heap.size w w' := by
  obtain ⟨iss, rfl⟩ : ∃ z, z = a0 := ⟨_, rfl⟩
  obtain ⟨irs, rfl⟩ : ∃ z, z = a1 := ⟨_, rfl⟩
  have hM := Mem.nil w
  have HI := Lib.hid (show 0 ≤ iss ∧ iss ≤ 4294967295 from ⟨ha0, ha0'⟩)
  have HJ := Lib.hid (show 0 ≤ irs ∧ irs ≤ 4294967295 from ⟨ha1, ha1'⟩)
  have HRA := Lib.hid (fun W => Rest_any a2 993 W ha2 ha2' (by decide) (by decide))
  have HRB := Lib.hid (fun W => Rest_any a3 993 W ha3 ha3' (by decide) (by decide))
  obtain ⟨ra, hra⟩ : ∃ z, z = a2 % 993 := ⟨_, rfl⟩
  obtain ⟨rb, hrb⟩ : ∃ z, z = a3 % 993 := ⟨_, rfl⟩
  have hza : 0 ≤ ra ∧ ra ≤ 992 := by omega
  have hzb : 0 ≤ rb ∧ rb ≤ 992 := by omega
  rw [← hra] at HRA
  rw [← hrb] at HRB
  obtain ⟨hza1, hza2⟩ := hza
  obtain ⟨hzb1, hzb2⟩ := hzb
  obtain ⟨ma, hma⟩ : ∃ z, z = 8 + ra := ⟨_, rfl⟩
  obtain ⟨mb, hmb⟩ : ∃ z, z = 8 + rb := ⟨_, rfl⟩
  have HA := Lib.hid (show 8 ≤ ma ∧ ma ≤ 1000 by omega)
  have HB := Lib.hid (show 8 ≤ mb ∧ mb ≤ 1000 by omega)
  have HMA := Lib.hid (hma.symm)
  have HMB := Lib.hid (hmb.symm)
  have HDA := Lib.hid (fun W => Dial_ok 1 7 2 8 iss (8 + ra) W (by decide) (by decide) (by rw [HMA.out]; exact HA.out))
  have HDB := Lib.hid (fun W => Dial_ok 2 8 1 7 irs (8 + rb) W (by decide) (by decide) (by rw [HMB.out]; exact HB.out))
  have HLC := Lib.hid (fun t => bo_len (la := 1) (lp := 7) (ra := 2) (rp := 8) (iss := iss) (irs := irs) (own := ma) (mo := mb) t)
  have HLD := Lib.hid (fun t => bo_len (la := 2) (lp := 8) (ra := 1) (rp := 7) (iss := irs) (irs := iss) (own := mb) (mo := ma) t)
  have HGC := Lib.hid (fun t => bo_seg (la := 1) (lp := 7) (ra := 2) (rp := 8) t (by decide) (by decide) HI.out HJ.out HA.out HB.out (by decide) (by decide))
  have HGD := Lib.hid (fun t => bo_seg (la := 2) (lp := 8) (ra := 1) (rp := 7) t (by decide) (by decide) HJ.out HI.out HB.out HA.out (by decide) (by decide))
  have HVC := Lib.hid (fun t => bo_ci (la := 1) (lp := 7) (ra := 2) (rp := 8) t (by decide) (by decide) HI.out HJ.out HA.out HB.out (by decide) (by decide))
  have HVD := Lib.hid (fun t => bo_ci (la := 2) (lp := 8) (ra := 1) (rp := 7) t (by decide) (by decide) HJ.out HI.out HB.out HA.out (by decide) (by decide))
  have HPC := Lib.hid (fun t => bo_step (la := 1) (lp := 7) (ra := 2) (rp := 8) t (by decide) (by decide) HI.out HJ.out HA.out HB.out)
  have HPD := Lib.hid (fun t => bo_step (la := 2) (lp := 8) (ra := 1) (rp := 7) t (by decide) (by decide) HJ.out HI.out HB.out HA.out)
  have hoc : cOut { cNew 1 7 2 8 iss (8 + ra) with st := 1 } = bo 1 7 2 8 iss irs ma mb 0 := by rw [HMA.out]; exact out_dial HI.out HA.out.1
  have hod : cOut { cNew 2 8 1 7 irs (8 + rb) with st := 1 } = bo 2 8 1 7 irs iss mb ma 0 := by rw [HMB.out]; exact out_dial HJ.out HB.out.1
  have hc0 : CI { cNew 1 7 2 8 iss (8 + ra) with st := 1 } 0 := CI.begin 1 7 2 8 iss (8 + ra) HI.out (by rw [HMA.out]; exact HA.out)
  have hd0 : CI { cNew 2 8 1 7 irs (8 + rb) with st := 1 } 0 := CI.begin 2 8 1 7 irs (8 + rb) HJ.out (by rw [HMB.out]; exact HB.out)
  have HU0 := Lib.hid (fun (W : World) (gc : Nat) (k : KPt) (F m : List Res) (h : MemX noE w W (F ++ (cnH gc 0 0 { cNew 1 7 2 8 iss (8 + ra) with st := 1 } k ++ m))) (hk : KOk k 0 0 none) => (by
    have h2 := outF F m h hk hc0 (by decide)
    rw [hoc] at h2
    exact h2 : Calls Try.prog 15 #[.pointer (some ⟨gc, 0, none⟩)] W fun e W' => ∃ v k', e = .returned v ∧ MemX noE w W' (rowR 13 cSeg v (bo 1 7 2 8 iss irs ma mb 0).2 :: (F ++ (cnH gc 0 0 (bo 1 7 2 8 iss irs ma mb 0).1 k' ++ m))) ∧ KOk k' 0 0 (bo 1 7 2 8 iss irs ma mb 0).1.h))
  have HV0 := Lib.hid (fun (W : World) (gd : Nat) (k : KPt) (F m : List Res) (h : MemX noE w W (F ++ (cnH gd 0 0 { cNew 2 8 1 7 irs (8 + rb) with st := 1 } k ++ m))) (hk : KOk k 0 0 none) => (by
    have h2 := outF F m h hk hd0 (by decide)
    rw [hod] at h2
    exact h2 : Calls Try.prog 15 #[.pointer (some ⟨gd, 0, none⟩)] W fun e W' => ∃ v k', e = .returned v ∧ MemX noE w W' (rowR 13 cSeg v (bo 2 8 1 7 irs iss mb ma 0).2 :: (F ++ (cnH gd 0 0 (bo 2 8 1 7 irs iss mb ma 0).1 k' ++ m))) ∧ KOk k' 0 0 (bo 2 8 1 7 irs iss mb ma 0).1.h))
  clear hra hrb hma hmb ha0 ha0' ha1 ha1' ha2 ha2' ha3 ha3' hoc hod hc0 hd0
  go_enter Try.func4, Try.ntmps4
  go_upto_region 2 with (first | go_skip | ((with_reducible refine at_alloc_ (T := 29) ?_); first | (refine wpList_alloc_mem (l := []) rfl 29 rfl _ zv_End _ rfl hM ?_; clear hM; intro gx W hM; simp only [List.nil_append] at hM) | (refine wpList_alloc_mem rfl 29 rfl _ zv_End _ rfl hM ?_; clear hM; intro gy W hM; simp only [List.cons_append, List.nil_append] at hM)) | ((with_reducible refine at_store_ (T := 29) ?_); first | (refine wpList_store_mem rfl 29 _ _ rfl 0 _ _ _ [.int .u32 1, .int .i64 7] hM rfl rfl rfl rfl sz_End rfl ?_; clear hM; intro W hM; simp only [List.set_cons_zero] at hM) | (refine wpList_store_mem rfl 29 _ _ rfl 1 _ _ _ [.int .u32 2, .int .i64 8] hM rfl rfl rfl rfl sz_End rfl ?_; clear hM; intro W hM; simp only [List.set_cons_succ, List.set_cons_zero] at hM)))
  refine wp_region_M [0,1] [] hM (by kernel_rfl) ?_
  clear hM
  intro wo hM
  refine wpI_take (i := 0) (v := .agg #[.int .u32 1, .int .i64 7]) rfl (by kernel_rfl) (by kernel_rfl) (by kernel_rfl) (by kernel_rfl) (by first | exact fun _ _ _ h => h | exact fun _ _ _ h => HQ0.out _ _ _ _ _ h) ⟨fun r hr => hM.get 0 hr, fun r hr => hM.get 1 hr, trivial⟩ (Or.inl ⟨by rfl, ?hy⟩) ?_
  case hy => (rintro W ⟨i0, i1, -⟩; have c0 := (show At W _ _ _ from i0 _ rfl).cell; have c1 := (show At W _ _ _ from i1 _ rfl).cell; exact exec_loadw _ _ rfl gx 0 rfl [.int .u32 1, .int .i64 7] _ Try.underlying29 rfl sz_End (range_cells c0))
  simp only [Act.put, List.getElem_toArray, List.getElem_cons_succ, List.getElem_cons_zero, List.setIfInBounds_toArray, List.set_cons_zero, List.set_cons_succ]
  refine wpI_take (i := 1) (v := .agg #[.int .u32 2, .int .i64 8]) rfl (by kernel_rfl) (by kernel_rfl) (by kernel_rfl) (by kernel_rfl) (by first | exact fun _ _ _ h => h | exact fun _ _ _ h => HQ0.out _ _ _ _ _ h) ⟨fun r hr => hM.get 0 hr, fun r hr => hM.get 1 hr, trivial⟩ (Or.inl ⟨by rfl, ?hy⟩) ?_
  case hy => (rintro W ⟨i0, i1, -⟩; have c0 := (show At W _ _ _ from i0 _ rfl).cell; have c1 := (show At W _ _ _ from i1 _ rfl).cell; exact exec_loadw _ _ rfl gy 0 rfl [.int .u32 2, .int .i64 8] _ Try.underlying29 rfl sz_End (range_cells c1))
  simp only [Act.put, List.getElem_toArray, List.getElem_cons_succ, List.getElem_cons_zero, List.setIfInBounds_toArray, List.set_cons_zero, List.set_cons_succ]
  refine wpI_takeP (i := 2) (v := ?_) rfl (by kernel_rfl) (by kernel_rfl) (by kernel_rfl) (by first | exact fun _ _ _ h => h | exact fun _ _ _ h => HQ0.out _ _ _ _ _ h) (Or.inl ⟨by rfl, ?hy⟩) ?_
  case hy => (intro W; go_simp; (try with_reducible rfl))
  simp only [Act.put, List.getElem_toArray, List.getElem_cons_succ, List.getElem_cons_zero, List.setIfInBounds_toArray, List.set_cons_zero, List.set_cons_succ]
  refine wpI_takeP (i := 3) (v := ?_) rfl (by kernel_rfl) (by kernel_rfl) (by kernel_rfl) (by first | exact fun _ _ _ h => h | exact fun _ _ _ h => HQ0.out _ _ _ _ _ h) (Or.inl ⟨by rfl, ?hy⟩) ?_
  case hy => (intro W; go_simp; (try with_reducible rfl))
  simp only [Act.put, List.getElem_toArray, List.getElem_cons_succ, List.getElem_cons_zero, List.setIfInBounds_toArray, List.set_cons_zero, List.set_cons_succ]
  refine wpI_takeC (i := 4) rfl (by kernel_rfl) (by kernel_rfl) (by kernel_rfl) (by kernel_rfl) (by first | exact fun _ _ _ h => h | exact fun _ _ _ h => HQ0.out _ _ _ _ _ h) ⟨fun r hr => hM.get 0 hr, fun r hr => hM.get 1 hr, trivial⟩ ⟨by rfl, fun W hW => ⟨_, _, by (go_simp; first | done | rfl), (HRA.out W)⟩⟩ ?_
  simp only [Act.put, List.getElem_toArray, List.getElem_cons_succ, List.getElem_cons_zero, List.setIfInBounds_toArray, List.set_cons_zero, List.set_cons_succ]
  refine wpI_takeP (i := 5) (v := ?_) rfl (by kernel_rfl) (by kernel_rfl) (by kernel_rfl) (by first | exact fun _ _ _ h => h | exact fun _ _ _ h => HQ0.out _ _ _ _ _ h) (Or.inl ⟨by rfl, ?hy⟩) ?_
  case hy => (intro W; go_simp; (try with_reducible rfl))
  simp only [Act.put, List.getElem_toArray, List.getElem_cons_succ, List.getElem_cons_zero, List.setIfInBounds_toArray, List.set_cons_zero, List.set_cons_succ]
  refine wpI_one (i := 6) rfl (by kernel_rfl) ?_
  (try simp only [Act.put, List.getElem_toArray, List.getElem_cons_succ, List.getElem_cons_zero, List.setIfInBounds_toArray, List.set_cons_zero, List.set_cons_succ])
  go_wp2_with (first
      | go_skip
      | ((go_at_call 14; refine (HDA.out _).mono ?_; rintro e W ⟨gc, gco, gct, rfl, hN⟩; replace hM := MemX.perm (hM.new_ hN) List.perm_append_comm; clear hN; simp only [List.cons_append, List.nil_append] at hM; dsimp only))
      | ((with_reducible refine at_box_ ?_); refine wpList_box_mem rfl _ _ rfl _ rfl hM ?_; clear hM; intro gb W hM; first | (simp only [List.nil_append] at hM) | (simp only [List.cons_append, List.nil_append] at hM)))
  refine contI_normal ⟨fun r hr => hM.get 0 hr, fun r hr => hM.get 1 hr, trivial⟩ ?_
  (try simp only [Act.put, List.getElem_toArray, List.getElem_cons_succ, List.getElem_cons_zero, List.setIfInBounds_toArray, List.set_cons_zero, List.set_cons_succ])
  refine wpI_takeP (i := 7) (v := ?_) rfl (by kernel_rfl) (by kernel_rfl) (by kernel_rfl) (by first | exact fun _ _ _ h => h | exact fun _ _ _ h => HQ0.out _ _ _ _ _ h) (Or.inl ⟨by rfl, ?hy⟩) ?_
  case hy => (intro W; go_simp; (try with_reducible rfl))
  simp only [Act.put, List.getElem_toArray, List.getElem_cons_succ, List.getElem_cons_zero, List.setIfInBounds_toArray, List.set_cons_zero, List.set_cons_succ]
  refine wpI_takeP (i := 8) (v := ?_) rfl (by kernel_rfl) (by kernel_rfl) (by kernel_rfl) (by first | exact fun _ _ _ h => h | exact fun _ _ _ h => HQ0.out _ _ _ _ _ h) (Or.inl ⟨by rfl, ?hy⟩) ?_
  case hy => (intro W; go_simp; (try with_reducible rfl))
  simp only [Act.put, List.getElem_toArray, List.getElem_cons_succ, List.getElem_cons_zero, List.setIfInBounds_toArray, List.set_cons_zero, List.set_cons_succ]
  refine wpI_takeP (i := 9) (v := ?_) rfl (by kernel_rfl) (by kernel_rfl) (by kernel_rfl) (by first | exact fun _ _ _ h => h | exact fun _ _ _ h => HQ0.out _ _ _ _ _ h) (Or.inl ⟨by rfl, ?hy⟩) ?_
  case hy => (intro W; go_simp; (try with_reducible rfl))
  simp only [Act.put, List.getElem_toArray, List.getElem_cons_succ, List.getElem_cons_zero, List.setIfInBounds_toArray, List.set_cons_zero, List.set_cons_succ]
  refine wpI_takeP (i := 10) (v := ?_) rfl (by kernel_rfl) (by kernel_rfl) (by kernel_rfl) (by first | exact fun _ _ _ h => h | exact fun _ _ _ h => HQ0.out _ _ _ _ _ h) (Or.inl ⟨by rfl, ?hy⟩) ?_
  case hy => (intro W; go_simp; (try with_reducible rfl))
  simp only [Act.put, List.getElem_toArray, List.getElem_cons_succ, List.getElem_cons_zero, List.setIfInBounds_toArray, List.set_cons_zero, List.set_cons_succ]
  refine wpI_takeP (i := 11) (v := ?_) rfl (by kernel_rfl) (by kernel_rfl) (by kernel_rfl) (by first | exact fun _ _ _ h => h | exact fun _ _ _ h => HQ0.out _ _ _ _ _ h) (Or.inl ⟨by rfl, ?hy⟩) ?_
  case hy => (intro W; go_simp; (try with_reducible rfl))
  simp only [Act.put, List.getElem_toArray, List.getElem_cons_succ, List.getElem_cons_zero, List.setIfInBounds_toArray, List.set_cons_zero, List.set_cons_succ]
  refine wpI_done (by kernel_rfl) ?_ _
  (try simp only [Act.put, List.getElem_toArray, List.getElem_cons_succ, List.getElem_cons_zero, List.setIfInBounds_toArray, List.set_cons_zero, List.set_cons_succ])
  go_upto_region 3 with (fail)
  refine wp_region_M [0,1] [] hM (by kernel_rfl) ?_
  clear hM
  intro wo hM
  refine wpI_take (i := 0) (v := .agg #[.int .u32 2, .int .i64 8]) rfl (by kernel_rfl) (by kernel_rfl) (by kernel_rfl) (by kernel_rfl) (by first | exact fun _ _ _ h => h | exact fun _ _ _ h => HQ0.out _ _ _ _ _ h) ⟨fun r hr => hM.get 0 hr, fun r hr => hM.get 1 hr, trivial⟩ (Or.inl ⟨by rfl, ?hy⟩) ?_
  case hy => (rintro W ⟨i0, i1, -⟩; have c0 := (show At W _ _ _ from i0 _ rfl).cell; have c1 := (show At W _ _ _ from i1 _ rfl).cell; exact exec_loadw _ _ rfl gy 0 rfl [.int .u32 2, .int .i64 8] _ Try.underlying29 rfl sz_End (range_cells c1))
  simp only [Act.put, List.getElem_toArray, List.getElem_cons_succ, List.getElem_cons_zero, List.setIfInBounds_toArray, List.set_cons_zero, List.set_cons_succ]
  refine wpI_take (i := 1) (v := .agg #[.int .u32 1, .int .i64 7]) rfl (by kernel_rfl) (by kernel_rfl) (by kernel_rfl) (by kernel_rfl) (by first | exact fun _ _ _ h => h | exact fun _ _ _ h => HQ0.out _ _ _ _ _ h) ⟨fun r hr => hM.get 0 hr, fun r hr => hM.get 1 hr, trivial⟩ (Or.inl ⟨by rfl, ?hy⟩) ?_
  case hy => (rintro W ⟨i0, i1, -⟩; have c0 := (show At W _ _ _ from i0 _ rfl).cell; have c1 := (show At W _ _ _ from i1 _ rfl).cell; exact exec_loadw _ _ rfl gx 0 rfl [.int .u32 1, .int .i64 7] _ Try.underlying29 rfl sz_End (range_cells c0))
  simp only [Act.put, List.getElem_toArray, List.getElem_cons_succ, List.getElem_cons_zero, List.setIfInBounds_toArray, List.set_cons_zero, List.set_cons_succ]
  refine wpI_takeP (i := 2) (v := ?_) rfl (by kernel_rfl) (by kernel_rfl) (by kernel_rfl) (by first | exact fun _ _ _ h => h | exact fun _ _ _ h => HQ0.out _ _ _ _ _ h) (Or.inl ⟨by rfl, ?hy⟩) ?_
  case hy => (intro W; go_simp; (try with_reducible rfl))
  simp only [Act.put, List.getElem_toArray, List.getElem_cons_succ, List.getElem_cons_zero, List.setIfInBounds_toArray, List.set_cons_zero, List.set_cons_succ]
  refine wpI_takeP (i := 3) (v := ?_) rfl (by kernel_rfl) (by kernel_rfl) (by kernel_rfl) (by first | exact fun _ _ _ h => h | exact fun _ _ _ h => HQ0.out _ _ _ _ _ h) (Or.inl ⟨by rfl, ?hy⟩) ?_
  case hy => (intro W; go_simp; (try with_reducible rfl))
  simp only [Act.put, List.getElem_toArray, List.getElem_cons_succ, List.getElem_cons_zero, List.setIfInBounds_toArray, List.set_cons_zero, List.set_cons_succ]
  refine wpI_takeC (i := 4) rfl (by kernel_rfl) (by kernel_rfl) (by kernel_rfl) (by kernel_rfl) (by first | exact fun _ _ _ h => h | exact fun _ _ _ h => HQ0.out _ _ _ _ _ h) ⟨fun r hr => hM.get 0 hr, fun r hr => hM.get 1 hr, trivial⟩ ⟨by rfl, fun W hW => ⟨_, _, by (go_simp; first | done | rfl), (HRB.out W)⟩⟩ ?_
  simp only [Act.put, List.getElem_toArray, List.getElem_cons_succ, List.getElem_cons_zero, List.setIfInBounds_toArray, List.set_cons_zero, List.set_cons_succ]
  refine wpI_takeP (i := 5) (v := ?_) rfl (by kernel_rfl) (by kernel_rfl) (by kernel_rfl) (by first | exact fun _ _ _ h => h | exact fun _ _ _ h => HQ0.out _ _ _ _ _ h) (Or.inl ⟨by rfl, ?hy⟩) ?_
  case hy => (intro W; go_simp; (try with_reducible rfl))
  simp only [Act.put, List.getElem_toArray, List.getElem_cons_succ, List.getElem_cons_zero, List.setIfInBounds_toArray, List.set_cons_zero, List.set_cons_succ]
  refine wpI_one (i := 6) rfl (by kernel_rfl) ?_
  (try simp only [Act.put, List.getElem_toArray, List.getElem_cons_succ, List.getElem_cons_zero, List.setIfInBounds_toArray, List.set_cons_zero, List.set_cons_succ])
  go_wp2_with (first
      | go_skip
      | ((go_at_call 14; refine (HDB.out _).mono ?_; rintro e W ⟨gd, gdo, gdt, rfl, hN⟩; replace hM := MemX.perm (hM.new_ hN) List.perm_append_comm; clear hN; simp only [List.cons_append, List.nil_append] at hM; dsimp only))
      | ((with_reducible refine at_box_ ?_); refine wpList_box_mem rfl _ _ rfl _ rfl hM ?_; clear hM; intro gb W hM; first | (simp only [List.nil_append] at hM) | (simp only [List.cons_append, List.nil_append] at hM)))
  refine contI_normal ⟨fun r hr => hM.get 0 hr, fun r hr => hM.get 1 hr, trivial⟩ ?_
  (try simp only [Act.put, List.getElem_toArray, List.getElem_cons_succ, List.getElem_cons_zero, List.setIfInBounds_toArray, List.set_cons_zero, List.set_cons_succ])
  refine wpI_takeP (i := 7) (v := ?_) rfl (by kernel_rfl) (by kernel_rfl) (by kernel_rfl) (by first | exact fun _ _ _ h => h | exact fun _ _ _ h => HQ0.out _ _ _ _ _ h) (Or.inl ⟨by rfl, ?hy⟩) ?_
  case hy => (intro W; go_simp; (try with_reducible rfl))
  simp only [Act.put, List.getElem_toArray, List.getElem_cons_succ, List.getElem_cons_zero, List.setIfInBounds_toArray, List.set_cons_zero, List.set_cons_succ]
  refine wpI_takeP (i := 8) (v := ?_) rfl (by kernel_rfl) (by kernel_rfl) (by kernel_rfl) (by first | exact fun _ _ _ h => h | exact fun _ _ _ h => HQ0.out _ _ _ _ _ h) (Or.inl ⟨by rfl, ?hy⟩) ?_
  case hy => (intro W; go_simp; (try with_reducible rfl))
  simp only [Act.put, List.getElem_toArray, List.getElem_cons_succ, List.getElem_cons_zero, List.setIfInBounds_toArray, List.set_cons_zero, List.set_cons_succ]
  refine wpI_takeP (i := 9) (v := ?_) rfl (by kernel_rfl) (by kernel_rfl) (by kernel_rfl) (by first | exact fun _ _ _ h => h | exact fun _ _ _ h => HQ0.out _ _ _ _ _ h) (Or.inl ⟨by rfl, ?hy⟩) ?_
  case hy => (intro W; go_simp; (try with_reducible rfl))
  simp only [Act.put, List.getElem_toArray, List.getElem_cons_succ, List.getElem_cons_zero, List.setIfInBounds_toArray, List.set_cons_zero, List.set_cons_succ]
  refine wpI_takeP (i := 10) (v := ?_) rfl (by kernel_rfl) (by kernel_rfl) (by kernel_rfl) (by first | exact fun _ _ _ h => h | exact fun _ _ _ h => HQ0.out _ _ _ _ _ h) (Or.inl ⟨by rfl, ?hy⟩) ?_
  case hy => (intro W; go_simp; (try with_reducible rfl))
  simp only [Act.put, List.getElem_toArray, List.getElem_cons_succ, List.getElem_cons_zero, List.setIfInBounds_toArray, List.set_cons_zero, List.set_cons_succ]
  refine wpI_takeP (i := 11) (v := ?_) rfl (by kernel_rfl) (by kernel_rfl) (by kernel_rfl) (by first | exact fun _ _ _ h => h | exact fun _ _ _ h => HQ0.out _ _ _ _ _ h) (Or.inl ⟨by rfl, ?hy⟩) ?_
  case hy => (intro W; go_simp; (try with_reducible rfl))
  simp only [Act.put, List.getElem_toArray, List.getElem_cons_succ, List.getElem_cons_zero, List.setIfInBounds_toArray, List.set_cons_zero, List.set_cons_succ]
  refine wpI_done (by kernel_rfl) ?_ _
  (try simp only [Act.put, List.getElem_toArray, List.getElem_cons_succ, List.getElem_cons_zero, List.setIfInBounds_toArray, List.set_cons_zero, List.set_cons_succ])
  replace hM := (show MemX noE w _ ([_, _] ++ (cnH gc 0 0 { cNew 1 7 2 8 iss (8 + ra) with st := 1 } (kNew gco gct) ++ (cnH gd 0 0 { cNew 2 8 1 7 irs (8 + rb) with st := 1 } (kNew gdo gdt) ++ []))) from hM).drop_
  have HK1 := Lib.hid (show KOk (kNew gco gct) 0 0 none from ⟨rfl, rfl⟩)
  have HK2 := Lib.hid (show KOk (kNew gdo gdt) 0 0 none from ⟨rfl, rfl⟩)
  go_upto_region 7 with (first | go_skip | (go_at_call 15; first | ((with_reducible refine (HU0.out _ gc (kNew gco gct) [] (cnH gd 0 0 { cNew 2 8 1 7 irs (8 + rb) with st := 1 } (kNew gdo gdt) ++ []) ?_ HK1.out).mono ?_); (exact hM); clear hM; rintro e W ⟨v1, kc, rfl, hM, hK⟩; have HKC := Lib.hid hK; clear hK; dsimp only) | ((with_reducible refine (HV0.out _ gd (kNew gdo gdt) (rowR 13 cSeg v1 (bo 1 7 2 8 iss irs ma mb 0).2 :: cnH gc 0 0 (bo 1 7 2 8 iss irs ma mb 0).1 kc) [] ?_ HK2.out).mono ?_); (exact hM); clear hM; rintro e W ⟨v2, kd, rfl, hM, hK⟩; have HKD := Lib.hid hK; clear hK; dsimp only)))
  obtain ⟨Al, ql, hv1⟩ := (hM.row (f := cSeg) (rs := (bo 1 7 2 8 iss irs ma mb 0).2) 1 rfl).form
  obtain ⟨Am, qm, hv2⟩ := (hM.row (f := cSeg) (rs := (bo 2 8 1 7 irs iss mb ma 0).2) 0 rfl).form
  subst hv1 hv2
  clear HDA HDB HU0 HV0 HK1 HK2 HRA HRB HMA HMB
  have HN := Lib.hid (show (bo 1 7 2 8 iss irs ma mb 0).2.length = 1 ∧ (bo 2 8 1 7 irs iss mb ma 0).2.length = 1 from ⟨rfl, rfl⟩)
  (go_wp2_with fail)
  replace hM := (show MemX noE w W (_ :: _ :: _) from hM).perm (List.Perm.swap _ _ _)
  rw [show IntKind.i64.wrap (8 + ra) = 8 + ra from IntWalk.i64_in _ (by omega), show IntKind.i64.wrap (8 + rb) = 8 + rb from IntWalk.i64_in _ (by omega)]
  go_loopg [61, 15, 16] 6 (fun gh i vl vm wr => ∃ (t gic gwc gid gwd nl nm ql qm : Nat) (kc kd : KPt) (Al Am : Option Addr), gh = 6 - t ∧ t ≤ 6 ∧ i = .int .i64 t ∧ vl = .slice Al nl ql ∧ vm = .slice Am nm qm ∧ MemX noE w wr (rowR 13 cSeg (.slice Al nl ql) (bo 1 7 2 8 iss irs ma mb t).2 :: rowR 13 cSeg (.slice Am nm qm) (bo 2 8 1 7 irs iss mb ma t).2 :: cnH gc gic gwc (bo 1 7 2 8 iss irs ma mb t).1 kc ++ (cnH gd gid gwd (bo 2 8 1 7 irs iss mb ma t).1 kd ++ [])) ∧ Hid ((bo 1 7 2 8 iss irs ma mb t).2.length = nl ∧ (bo 2 8 1 7 irs iss mb ma t).2.length = nm ∧ KOk kc gic gwc (bo 1 7 2 8 iss irs ma mb t).1.h ∧ KOk kd gid gwd (bo 2 8 1 7 irs iss mb ma t).1.h))
  case atStart => exact ⟨0, 0, 0, 0, 0, 1, 1, ql, qm, kc, kd, Al, Am, rfl, by decide, rfl, rfl, rfl, hM, Lib.hid ⟨rfl, rfl, HKC.out, HKD.out⟩⟩
  case round =>
    clear hM HKC HKD HN
    obtain ⟨t, gic, gwc, gid, gwd, nl, nm, ql, qm, kc, kd, Al, Am, hgh, ht, rfl, rfl, rfl, hM, HH⟩ := hrel
    have HGH := Lib.hid hgh
    clear hgh
    have hnl : nl ≤ 1 := by rw [← HH.out.1]; exact HLC.out t
    have hnm : nm ≤ 1 := by rw [← HH.out.2.1]; exact HLD.out t
    have HNB := Lib.hid (show ∀ j : Nat, j ≤ nl ∨ j ≤ nm → (1 : Int) + j ≤ 10 from fun j h => by omega)
    by_cases h6 : t < 6
    · obtain ⟨c, hc⟩ : ∃ z, z = (bo 1 7 2 8 iss irs ma mb t).1 := ⟨_, rfl⟩
      obtain ⟨d, hd⟩ : ∃ z, z = (bo 2 8 1 7 irs iss mb ma t).1 := ⟨_, rfl⟩
      obtain ⟨l, hl⟩ : ∃ z, z = (bo 1 7 2 8 iss irs ma mb t).2 := ⟨_, rfl⟩
      obtain ⟨m, hm⟩ : ∃ z, z = (bo 2 8 1 7 irs iss mb ma t).2 := ⟨_, rfl⟩
      have HSL := Lib.hid (show ∀ g ∈ l, SegOk g from by rw [hl]; exact HGC.out t)
      have HSM := Lib.hid (show ∀ g ∈ m, SegOk g from by rw [hm]; exact HGD.out t)
      have HCC := Lib.hid (show CI c 1 from by rw [hc]; exact HVC.out t)
      have HCD := Lib.hid (show CI d 1 from by rw [hd]; exact HVD.out t)
      have HTC := Lib.hid (show cOut (m.foldl cIn c) = (bo 1 7 2 8 iss irs ma mb (t + 1)) from by rw [hm, hc]; exact HPC.out t)
      have HTD := Lib.hid (show cOut (l.foldl cIn d) = (bo 2 8 1 7 irs iss mb ma (t + 1)) from by rw [hl, hd]; exact HPD.out t)
      have HNL := Lib.hid (show l.length = nl from by rw [hl]; exact HH.out.1)
      have HNM := Lib.hid (show m.length = nm from by rw [hm]; exact HH.out.2.1)
      have HKC := Lib.hid (show KOk kc gic gwc c.h from by rw [hc]; exact HH.out.2.2.1)
      have HKD := Lib.hid (show KOk kd gid gwd d.h from by rw [hd]; exact HH.out.2.2.2)
      rw [← hl, ← hm, ← hc, ← hd] at hM
      clear hc hd hl hm HH
      go_upto_region 10 with (fail)
      rw [show decide ((t : Int) < 6) = true from decide_eq_true (by omega)]
      go_loopg [65] nl (fun gh i wr => ∃ (j gi2 gw2 : Nat) (k2 : KPt), gh = nl - j ∧ j ≤ nl ∧ i = .int .i64 j ∧ MemX noE w wr (rowR 13 cSeg (.slice Al nl ql) l :: rowR 13 cSeg (.slice Am nm qm) m :: cnH gc gic gwc c kc ++ (cnH gd gi2 gw2 ((l.take j).foldl cIn d) k2 ++ [])) ∧ Hid (KOk k2 gi2 gw2 ((l.take j).foldl cIn d).h ∧ CI ((l.take j).foldl cIn d) (1 + j)))
      case atStart => exact ⟨0, gid, gwd, kd, by omega, by omega, rfl, hM, Lib.hid ⟨HKD.out, by have h := HCD.out; exact h⟩⟩
      case round =>
        clear hM
        obtain ⟨j, gi2, gw2, k2, hgj, hj, rfl, hM, HKI⟩ := hrel
        have HGJ := Lib.hid hgj
        clear hgj
        by_cases hlt : j < nl
        · obtain ⟨x, hr⟩ : ∃ x, l[j]? = some x := ⟨l[j]'(by rw [HNL.out]; exact hlt), List.getElem?_eq_getElem _⟩
          have HX := Lib.hid (HSL.out x (List.mem_of_getElem? hr))
          have HTK := Lib.hid (show ((l.take (j + 1)).foldl cIn d) = cIn ((l.take j).foldl cIn d) x from by rw [List.take_add_one, hr]; simp)
          obtain ⟨gr, offr, cr', hv, -⟩ := (hM.row (f := cSeg) (rs := l) 0 rfl).pos (by rw [HNL.out]; omega)
          injection hv with hv1 hv3 hv2
          clear hv3
          subst hv1 hv2
          obtain ⟨z, hz⟩ : ∃ z, z = ((l.take j).foldl cIn d) := ⟨_, rfl⟩
          rw [← hz] at hM HKI HTK
          clear hz
          have HCI := Lib.hid (show CI ((l.take (j + 1)).foldl cIn d) (1 + ((j + 1 : Nat) : Int)) from by rw [HTK.out]; have h := (HKI.out.2.in_ (by have := HNB.out j (.inl hj); omega) x HX.out).1; rw [show (1 : Int) + ((j + 1 : Nat) : Int) = 1 + (j : Int) + 1 by omega]; exact h)
          have HIN := Lib.hid (fun (W : World) (gs : Nat) (h : MemX noE w W ((atR gs 33 (cSeg x) :: rowR 13 cSeg (.slice (some ⟨gr, offr, none⟩) nl ql) l :: rowR 13 cSeg (.slice Am nm qm) m :: cnH gc gic gwc c kc) ++ (cnH gd gi2 gw2 z k2 ++ []))) => inF (atR gs 33 (cSeg x) :: rowR 13 cSeg (.slice (some ⟨gr, offr, none⟩) nl ql) l :: rowR 13 cSeg (.slice Am nm qm) m :: cnH gc gic gwc c kc) [] h HKI.out.1 HKI.out.2 (by have := HNB.out j (.inl hj); omega) x HX.out)
          go_upto_region 12 with (first | go_skip | ((with_reducible refine at_load_ (T := 33) ?_); refine wpList_load_row (f := cSeg) rfl _ _ rfl 0 _ _ hM rfl hr rfl cSeg_len _ Try.underlying33 rfl sz_Seg ?_) | ((with_reducible refine at_alloc_ (T := 33) ?_); refine wpList_alloc_mem rfl 33 rfl _ zv_Seg _ rfl hM ?_; clear hM; intro gs W hM; replace hM := cn_last hM) | ((with_reducible refine at_store_ (T := 33) ?_); refine wpList_store_mem rfl 33 _ _ rfl 0 _ _ _ (cSeg x) hM rfl rfl rfl rfl sz_Seg rfl ?_; clear hM; intro W hM; simp only [List.cons_append, List.set_cons_zero] at hM))
          go_wp2_with (first | go_skip | ((with_reducible refine at_load_ (T := 33) ?_); refine wpList_loadg_mem (by go_simp) 33 _ rfl 0 _ _ _ hM rfl rfl _ Try.underlying33 rfl sz_Seg ?_) | (go_at_call 19; refine (HIN.out _ gs hM).mono ?_; clear hM HKI; rintro e W ⟨gi4, gw4, k4, rfl, hM, hK⟩; rw [← HTK.out] at hM hK; have HK4 := Lib.hid hK; clear hK; replace hM := (show MemX noE w W ([_] ++ _) from hM).drop_; dsimp only))
          go_roundg (nl - (j + 1))
          case measure => have := HGJ.out; omega
          case rel => exact ⟨j + 1, gi4, gw4, k4, rfl, by omega, by go_num, hM, Lib.hid ⟨HK4.out, HCI.out⟩⟩
        · obtain rfl : nl = j := by omega
          obtain ⟨d2, he2⟩ : ∃ z, z = ((l.take nl).foldl cIn d) := ⟨_, rfl⟩
          rw [← he2] at hM HKI
          have HKD2 := HKI
          have HD2 := Lib.hid (show d2 = l.foldl cIn d from by rw [he2, ← HNL.out, List.take_length])
          clear he2 hlt HGJ
          go_upto_region 15 with (fail)
          go_loopg [75] nm (fun gh i wr => ∃ (j gi3 gw3 : Nat) (k3 : KPt), gh = nm - j ∧ j ≤ nm ∧ i = .int .i64 j ∧ MemX noE w wr (rowR 13 cSeg (.slice Al nl ql) l :: rowR 13 cSeg (.slice Am nm qm) m :: cnH gc gi3 gw3 ((m.take j).foldl cIn c) k3 ++ (cnH gd gi2 gw2 d2 k2 ++ [])) ∧ Hid (KOk k3 gi3 gw3 ((m.take j).foldl cIn c).h ∧ CI ((m.take j).foldl cIn c) (1 + j)))
          case atStart => exact ⟨0, gic, gwc, kc, by omega, by omega, rfl, hM, Lib.hid ⟨HKC.out, by have h := HCC.out; exact h⟩⟩
          case round =>
            clear hM
            obtain ⟨j, gi3, gw3, k3, hgj, hj, rfl, hM, HKI⟩ := hrel
            have HGJ := Lib.hid hgj
            clear hgj
            by_cases hlt : j < nm
            · obtain ⟨x, hr⟩ : ∃ x, m[j]? = some x := ⟨m[j]'(by rw [HNM.out]; exact hlt), List.getElem?_eq_getElem _⟩
              have HX := Lib.hid (HSM.out x (List.mem_of_getElem? hr))
              have HTK := Lib.hid (show ((m.take (j + 1)).foldl cIn c) = cIn ((m.take j).foldl cIn c) x from by rw [List.take_add_one, hr]; simp)
              obtain ⟨gr, offr, cr', hv, -⟩ := (hM.row (f := cSeg) (rs := m) 1 rfl).pos (by rw [HNM.out]; omega)
              injection hv with hv1 hv3 hv2
              clear hv3
              subst hv1 hv2
              obtain ⟨z, hz⟩ : ∃ z, z = ((m.take j).foldl cIn c) := ⟨_, rfl⟩
              rw [← hz] at hM HKI HTK
              clear hz
              have HCI := Lib.hid (show CI ((m.take (j + 1)).foldl cIn c) (1 + ((j + 1 : Nat) : Int)) from by rw [HTK.out]; have h := (HKI.out.2.in_ (by have := HNB.out j (.inr hj); omega) x HX.out).1; rw [show (1 : Int) + ((j + 1 : Nat) : Int) = 1 + (j : Int) + 1 by omega]; exact h)
              have HIN := Lib.hid (fun (W : World) (gs : Nat) (h : MemX noE w W ((atR gs 33 (cSeg x) :: rowR 13 cSeg (.slice Al nl ql) l :: rowR 13 cSeg (.slice (some ⟨gr, offr, none⟩) nm qm) m :: []) ++ (cnH gc gi3 gw3 z k3 ++ (cnH gd gi2 gw2 d2 k2 ++ [])))) => inF (atR gs 33 (cSeg x) :: rowR 13 cSeg (.slice Al nl ql) l :: rowR 13 cSeg (.slice (some ⟨gr, offr, none⟩) nm qm) m :: []) (cnH gd gi2 gw2 d2 k2 ++ []) h HKI.out.1 HKI.out.2 (by have := HNB.out j (.inr hj); omega) x HX.out)
              go_upto_region 17 with (first | go_skip | ((with_reducible refine at_load_ (T := 33) ?_); refine wpList_load_row (f := cSeg) rfl _ _ rfl 1 _ _ hM rfl hr rfl cSeg_len _ Try.underlying33 rfl sz_Seg ?_) | ((with_reducible refine at_alloc_ (T := 33) ?_); refine wpList_alloc_mem rfl 33 rfl _ zv_Seg _ rfl hM ?_; clear hM; intro gs W hM; replace hM := cn_last hM) | ((with_reducible refine at_store_ (T := 33) ?_); refine wpList_store_mem rfl 33 _ _ rfl 0 _ _ _ (cSeg x) hM rfl rfl rfl rfl sz_Seg rfl ?_; clear hM; intro W hM; simp only [List.cons_append, List.set_cons_zero] at hM))
              go_wp2_with (first | go_skip | ((with_reducible refine at_load_ (T := 33) ?_); refine wpList_loadg_mem (by go_simp) 33 _ rfl 0 _ _ _ hM rfl rfl _ Try.underlying33 rfl sz_Seg ?_) | (go_at_call 19; refine (HIN.out _ gs hM).mono ?_; clear hM HKI; rintro e W ⟨gi4, gw4, k4, rfl, hM, hK⟩; rw [← HTK.out] at hM hK; have HK4 := Lib.hid hK; clear hK; replace hM := (show MemX noE w W ([_] ++ _) from hM).drop_; dsimp only))
              go_roundg (nm - (j + 1))
              case measure => have := HGJ.out; omega
              case rel => exact ⟨j + 1, gi4, gw4, k4, rfl, by omega, by go_num, hM, Lib.hid ⟨HK4.out, HCI.out⟩⟩
            · obtain rfl : nm = j := by omega
              obtain ⟨c2, he2⟩ : ∃ z, z = ((m.take nm).foldl cIn c) := ⟨_, rfl⟩
              rw [← he2] at hM HKI
              have HKC2 := HKI
              have HC2 := Lib.hid (show c2 = m.foldl cIn c from by rw [he2, ← HNM.out, List.take_length])
              clear he2 hlt HGJ
              have HOC := Lib.hid (fun (W : World) (h : MemX noE w W ([rowR 13 cSeg (.slice Al nl ql) l, rowR 13 cSeg (.slice Am nm qm) m] ++ (cnH gc gi3 gw3 c2 k3 ++ (cnH gd gi2 gw2 d2 k2 ++ [])))) => (by
                have h2 := outF [rowR 13 cSeg (.slice Al nl ql) l, rowR 13 cSeg (.slice Am nm qm) m] (cnH gd gi2 gw2 d2 k2 ++ []) h HKI.out.1 HKI.out.2 (by have := HNB.out nm (.inr (Nat.le_refl _)); omega)
                rw [show cOut c2 = (bo 1 7 2 8 iss irs ma mb (t + 1)) from by rw [HC2.out]; exact HTC.out] at h2
                exact h2 : Calls Try.prog 15 #[.pointer (some ⟨gc, 0, none⟩)] W fun e W' => ∃ v k', e = .returned v ∧ MemX noE w W' (rowR 13 cSeg v (bo 1 7 2 8 iss irs ma mb (t + 1)).2 :: (rowR 13 cSeg (.slice Al nl ql) l :: rowR 13 cSeg (.slice Am nm qm) m :: cnH gc gi3 gw3 (bo 1 7 2 8 iss irs ma mb (t + 1)).1 k' ++ (cnH gd gi2 gw2 d2 k2 ++ []))) ∧ KOk k' gi3 gw3 (bo 1 7 2 8 iss irs ma mb (t + 1)).1.h))
              have HOD := Lib.hid (fun (W : World) (v : Value) (k : KPt) (h : MemX noE w W (rowR 13 cSeg v (bo 1 7 2 8 iss irs ma mb (t + 1)).2 :: (rowR 13 cSeg (.slice Al nl ql) l :: rowR 13 cSeg (.slice Am nm qm) m :: cnH gc gi3 gw3 (bo 1 7 2 8 iss irs ma mb (t + 1)).1 k ++ (cnH gd gi2 gw2 d2 k2 ++ [])))) => (by
                have h2 := outF (rowR 13 cSeg v (bo 1 7 2 8 iss irs ma mb (t + 1)).2 :: rowR 13 cSeg (.slice Al nl ql) l :: rowR 13 cSeg (.slice Am nm qm) m :: cnH gc gi3 gw3 (bo 1 7 2 8 iss irs ma mb (t + 1)).1 k) [] h HKD2.out.1 HKD2.out.2 (by have := HNB.out nl (.inl (Nat.le_refl _)); omega)
                rw [show cOut d2 = (bo 2 8 1 7 irs iss mb ma (t + 1)) from by rw [HD2.out]; exact HTD.out] at h2
                exact h2 : Calls Try.prog 15 #[.pointer (some ⟨gd, 0, none⟩)] W fun e W' => ∃ v2 k', e = .returned v2 ∧ MemX noE w W' (rowR 13 cSeg v2 (bo 2 8 1 7 irs iss mb ma (t + 1)).2 :: rowR 13 cSeg v (bo 1 7 2 8 iss irs ma mb (t + 1)).2 :: (rowR 13 cSeg (.slice Al nl ql) l :: rowR 13 cSeg (.slice Am nm qm) m :: cnH gc gi3 gw3 (bo 1 7 2 8 iss irs ma mb (t + 1)).1 k ++ (cnH gd gi2 gw2 (bo 2 8 1 7 irs iss mb ma (t + 1)).1 k' ++ []))) ∧ KOk k' gi2 gw2 (bo 2 8 1 7 irs iss mb ma (t + 1)).1.h))
              clear HKI HKD2 HTC HTD HSL HSM HCC HCD HNL HNM HC2 HD2 HNB hnl hnm HKC HKD
              go_wp2_with (first | go_skip | (go_at_call 15; first | ((with_reducible refine (HOC.out _ hM).mono ?_); clear hM; rintro e W ⟨v1, k5, rfl, hM, hK⟩; have HK5 := Lib.hid hK; clear hK; dsimp only) | ((with_reducible refine (HOD.out _ v1 k5 hM).mono ?_); clear hM; rintro e W ⟨v2, k6, rfl, hM, hK⟩; have HK6 := Lib.hid hK; clear hK; dsimp only)))
              obtain ⟨A5, q5, hv1⟩ := (hM.row (f := cSeg) (rs := (bo 1 7 2 8 iss irs ma mb (t + 1)).2) 1 rfl).form
              obtain ⟨A6, q6, hv2⟩ := (hM.row (f := cSeg) (rs := (bo 2 8 1 7 irs iss mb ma (t + 1)).2) 0 rfl).form
              subst hv1 hv2
              have hM5 := ((show MemX noE w _ ([_, _] ++ ([_, _] ++ _)) from hM).perm (List.perm_append_comm_assoc _ _ _)).drop_
              have hM6 := hM5.perm (List.Perm.swap _ _ _)
              clear hM hM5
              go_roundg (6 - (t + 1))
              case measure => have := HGH.out; omega
              case rel => exact ⟨t + 1, gi3, gw3, gi2, gw2, _, _, q5, q6, k5, k6, A5, A6, rfl, by omega, by go_num, rfl, rfl, hM6, Lib.hid ⟨rfl, rfl, HK5.out, HK6.out⟩⟩
    · obtain rfl : t = 6 := by omega
      have HS1 := Lib.hid (fun (W : World) (h : MemX noE w W ([rowR 13 cSeg (.slice Al nl ql) (bo 1 7 2 8 iss irs ma mb 6).2, rowR 13 cSeg (.slice Am nm qm) (bo 2 8 1 7 irs iss mb ma 6).2] ++ (cnH gc gic gwc (bo 1 7 2 8 iss irs ma mb 6).1 kc ++ (cnH gd gid gwd (bo 2 8 1 7 irs iss mb ma 6).1 kd ++ [])))) => (stateF [rowR 13 cSeg (.slice Al nl ql) (bo 1 7 2 8 iss irs ma mb 6).2, rowR 13 cSeg (.slice Am nm qm) (bo 2 8 1 7 irs iss mb ma 6).2] (cnH gd gid gwd (bo 2 8 1 7 irs iss mb ma 6).1 kd ++ []) h : Calls Try.prog 16 #[.pointer (some ⟨gc, 0, none⟩)] W fun e W' => e = .returned (.int .i64 3) ∧ W = W'))
      have HS2 := Lib.hid (fun (W : World) (h : MemX noE w W ((rowR 13 cSeg (.slice Al nl ql) (bo 1 7 2 8 iss irs ma mb 6).2 :: rowR 13 cSeg (.slice Am nm qm) (bo 2 8 1 7 irs iss mb ma 6).2 :: cnH gc gic gwc (bo 1 7 2 8 iss irs ma mb 6).1 kc) ++ (cnH gd gid gwd (bo 2 8 1 7 irs iss mb ma 6).1 kd ++ []))) => (stateF (rowR 13 cSeg (.slice Al nl ql) (bo 1 7 2 8 iss irs ma mb 6).2 :: rowR 13 cSeg (.slice Am nm qm) (bo 2 8 1 7 irs iss mb ma 6).2 :: cnH gc gic gwc (bo 1 7 2 8 iss irs ma mb 6).1 kc) [] h : Calls Try.prog 16 #[.pointer (some ⟨gd, 0, none⟩)] W fun e W' => e = .returned (.int .i64 3) ∧ W = W'))
      have h1 : 0 = nl := HH.out.1
      have h2 : 0 = nm := HH.out.2.1
      subst h1 h2
      clear HH HNB hnl hnm ht h6
      go_wp2_with (first | go_skip | (go_at_call 16; first | ((with_reducible refine (HS1.out _ ?_).mono ?_); (exact hM); rintro e W ⟨rfl, rfl⟩; dsimp only) | ((with_reducible refine (HS2.out _ ?_).mono ?_); (exact hM); rintro e W ⟨rfl, rfl⟩; dsimp only)))
      go_ret
      exact ⟨rfl, hM.b⟩
end Go.Proofs.Ytfpifahkpkjfgaa
