/- listen.Queue: Half, Done, Gone, Take. -/
import Derived.Test.YtmcdmgnpbhkdhaaLisC
namespace Go.Proofs.Ytmcdmgnpbhkdhaa
open Go.RowKit Go.Lib
set_option linter.unusedVariables false
set_option linter.unusedSimpArgs false
set_option linter.unusedSectionVars false

def lHalf (q : KLis) (e : KEnd) : KLis := if mHas q.half e = true ∨ 0 ≤ lisI q e then q else if (q.half.length : Int) = q.bl then q else { q with half := mPut q.half e 1 }
def lHalfB (q : KLis) (e : KEnd) : Bool := if mHas q.half e = true ∨ 0 ≤ lisI q e then false else if (q.half.length : Int) = q.bl then false else true
def lHalfE (q : KLis) (e : KEnd) : Int := if mHas q.half e = true ∨ 0 ≤ lisI q e then 8 else 0
section
variable (g gm : Nat) (q : KLis) (v : Value) (e : KEnd) (w : World) (hM : LisPre w w g gm q v q v) (ok : LisOk q) (he : EndOk e)
include hM ok he
set_option maxRecDepth 100000 in
set_option maxHeartbeats 4000000 in
theorem Half_any : Calls Try.prog 26 #[.pointer (some ⟨g, 0, none⟩), .agg (cEnd e).toArray] w fun x w' => x = .returned (.tuple #[.bool (lHalfB q e), .int .i64 (lHalfE q e)]) ∧ LisPre w w' g gm q v (lHalf q e) v := by
  have HWT := Lib.hid (fun W hA hW => waits_any g gm q v e W hA hW (by have := ok.w; omega))
  have r1 : lHalf q e = if mHas q.half e = true ∨ 0 ≤ lisI q e then q else if (q.half.length : Int) = q.bl then q else { q with half := mPut q.half e 1 } := rfl
  have r2 : lHalfB q e = if mHas q.half e = true ∨ 0 ≤ lisI q e then false else if (q.half.length : Int) = q.bl then false else true := rfl
  have r3 : lHalfE q e = if mHas q.half e = true ∨ 0 ≤ lisI q e then 8 else 0 := rfl
  generalize lisI q e = I at *
  cases hh : mHas q.half e
  · rw [hh] at r1 r2 r3
    by_cases hI : 0 ≤ I
    · rw [if_pos (Or.inr hI)] at r1 r2 r3
      rw [r1, r2, r3]
      clear r1 r2 r3
      go_enter Try.func26, Try.ntmps26
      go_upto_region 1 with         (first
          | (refine at_box_ ?_; refine wpList_box_mem rfl _ _ rfl _ rfl hM ?_; clear hM; intro gb W hM; first | (simp only [List.nil_append] at hM) | (simp only [List.cons_append, List.nil_append] at hM)))
      refine wp_region_M [0,3] [] hM (by kernel_rfl) ?_
      clear hM
      intro wo hM
      refine wpI_takeP (i := 0) (v := ?_) rfl (by kernel_rfl) (by kernel_rfl) (by kernel_rfl) (by first | exact fun _ _ _ h => h | exact fun _ _ _ h => HQ0.out _ _ _ _ h) (Or.inl ⟨by rfl, ?hy⟩) ?_
      case hy => (intro W; go_simp; (try with_reducible rfl))
      simp only [Act.put, List.getElem_toArray, List.getElem_cons_succ, List.getElem_cons_zero, List.setIfInBounds_toArray, List.set_cons_zero, List.set_cons_succ]
      refine wpI_takeP (i := 1) (v := ?_) rfl (by kernel_rfl) (by kernel_rfl) (by kernel_rfl) (by first | exact fun _ _ _ h => h | exact fun _ _ _ h => HQ0.out _ _ _ _ h) (Or.inl ⟨by rfl, ?hy⟩) ?_
      case hy => (intro W; go_simp; (try with_reducible rfl))
      simp only [Act.put, List.getElem_toArray, List.getElem_cons_succ, List.getElem_cons_zero, List.setIfInBounds_toArray, List.set_cons_zero, List.set_cons_succ]
      refine wpI_takeP (i := 2) (v := ?_) rfl (by kernel_rfl) (by kernel_rfl) (by kernel_rfl) (by first | exact fun _ _ _ h => h | exact fun _ _ _ h => HQ0.out _ _ _ _ h) (Or.inl ⟨by rfl, ?hy⟩) ?_
      case hy => (intro W; go_simp; (try with_reducible rfl))
      simp only [Act.put, List.getElem_toArray, List.getElem_cons_succ, List.getElem_cons_zero, List.setIfInBounds_toArray, List.set_cons_zero, List.set_cons_succ]
      refine wpI_take (i := 3) (v := ?_) rfl (by kernel_rfl) (by kernel_rfl) (by kernel_rfl) (by kernel_rfl) (by first | exact fun _ _ _ h => h | exact fun _ _ _ h => HQ0.out _ _ _ _ h) ⟨fun r hr => hM.get 0 hr, fun r hr => hM.get 3 hr, trivial⟩ (Or.inl ⟨by rfl, ?hy⟩) ?_
      case hy => (rintro W ⟨i0, i3, -⟩; have c0 := (show At W _ _ _ from i0 _ rfl).cell; have c3 := (show At W _ _ _ from i3 _ rfl).cell; (try simp only [lisC, cEnd] at c0 c3); go_simp; (try with_reducible rfl))
      simp only [Act.put, List.getElem_toArray, List.getElem_cons_succ, List.getElem_cons_zero, List.setIfInBounds_toArray, List.set_cons_zero, List.set_cons_succ]
      refine wpI_take (i := 4) (v := ?_) rfl (by kernel_rfl) (by kernel_rfl) (by kernel_rfl) (by kernel_rfl) (by first | exact fun _ _ _ h => h | exact fun _ _ _ h => HQ0.out _ _ _ _ h) ⟨fun r hr => hM.get 0 hr, fun r hr => hM.get 3 hr, trivial⟩ (Or.inl ⟨by rfl, ?hy⟩) ?_
      case hy => (rintro W ⟨i0, i3, -⟩; have c0 := (show At W _ _ _ from i0 _ rfl).cell; have c3 := (show At W _ _ _ from i3 _ rfl).cell; (try simp only [lisC, cEnd] at c0 c3); go_simp; (try with_reducible rfl))
      simp only [Act.put, List.getElem_toArray, List.getElem_cons_succ, List.getElem_cons_zero, List.setIfInBounds_toArray, List.set_cons_zero, List.set_cons_succ]
      refine wpI_one (i := 5) rfl (by kernel_rfl) ?_
      go_wp2_with (first
          | (refine at_lookup_ ?_; refine wpList_lookup_m (by go_simp) _ _ true rfl mapTy_lis (.int .i64 0) (fun _ => by kernel_rfl) 1 hM rfl rfl e rfl (keyOk_End he) ?_)
          | (refine at_box_ ?_; refine wpList_box_mem rfl _ _ rfl _ rfl hM ?_; clear hM; intro gb W hM; first | (simp only [List.nil_append] at hM) | (simp only [List.cons_append, List.nil_append] at hM)))
      refine contI_normal ⟨fun r hr => hM.get 0 hr, fun r hr => hM.get 3 hr, trivial⟩ ?_
      (try simp only [Act.put, List.getElem_toArray, List.getElem_cons_succ, List.getElem_cons_zero, List.setIfInBounds_toArray, List.set_cons_zero, List.set_cons_succ])
      refine wpI_takeP (i := 6) (v := ?_) rfl (by kernel_rfl) (by kernel_rfl) (by kernel_rfl) (by first | exact fun _ _ _ h => h | exact fun _ _ _ h => HQ0.out _ _ _ _ h) (Or.inl ⟨by rfl, ?hy⟩) ?_
      case hy => (intro W; go_simp; (try with_reducible rfl))
      simp only [Act.put, List.getElem_toArray, List.getElem_cons_succ, List.getElem_cons_zero, List.setIfInBounds_toArray, List.set_cons_zero, List.set_cons_succ]
      refine wpI_takeP (i := 7) (v := ?_) rfl (by kernel_rfl) (by kernel_rfl) (by kernel_rfl) (by first | exact fun _ _ _ h => h | exact fun _ _ _ h => HQ0.out _ _ _ _ h) (Or.inl ⟨by rfl, ?hy⟩) ?_
      case hy => (intro W; go_simp; (try with_reducible rfl))
      simp only [Act.put, List.getElem_toArray, List.getElem_cons_succ, List.getElem_cons_zero, List.setIfInBounds_toArray, List.set_cons_zero, List.set_cons_succ]
      refine wpI_takeP (i := 8) (v := ?_) rfl (by kernel_rfl) (by kernel_rfl) (by kernel_rfl) (by first | exact fun _ _ _ h => h | exact fun _ _ _ h => HQ0.out _ _ _ _ h) (Or.inl ⟨by rfl, ?hy⟩) ?_
      case hy => (intro W; go_simp; (try with_reducible rfl))
      simp only [Act.put, List.getElem_toArray, List.getElem_cons_succ, List.getElem_cons_zero, List.setIfInBounds_toArray, List.set_cons_zero, List.set_cons_succ]
      refine wpI_takeP (i := 9) (v := ?_) rfl (by kernel_rfl) (by kernel_rfl) (by kernel_rfl) (by first | exact fun _ _ _ h => h | exact fun _ _ _ h => HQ0.out _ _ _ _ h) (Or.inl ⟨by rfl, ?hy⟩) ?_
      case hy => (intro W; go_simp; (try with_reducible rfl))
      simp only [Act.put, List.getElem_toArray, List.getElem_cons_succ, List.getElem_cons_zero, List.setIfInBounds_toArray, List.set_cons_zero, List.set_cons_succ]
      refine wpI_takeP (i := 10) (v := ?_) rfl (by kernel_rfl) (by kernel_rfl) (by kernel_rfl) (by first | exact fun _ _ _ h => h | exact fun _ _ _ h => HQ0.out _ _ _ _ h) (Or.inl ⟨by rfl, ?hy⟩) ?_
      case hy => (intro W; go_simp; (try with_reducible rfl))
      simp only [Act.put, List.getElem_toArray, List.getElem_cons_succ, List.getElem_cons_zero, List.setIfInBounds_toArray, List.set_cons_zero, List.set_cons_succ]
      refine wpI_done (by kernel_rfl) ?_ _
      (try simp only [Act.put, List.getElem_toArray, List.getElem_cons_succ, List.getElem_cons_zero, List.setIfInBounds_toArray, List.set_cons_zero, List.set_cons_succ])
      go_wp2_with         (first
          | (go_at_call 44; refine (HWT.out _ (hM.at_ 0 rfl) (hM.win_ 2 rfl)).mono ?_; rintro x W ⟨rfl, hb⟩; replace hM := hM.kept hb; clear hb; dsimp only)
          | (refine at_box_ ?_; refine wpList_box_mem rfl _ _ rfl _ rfl hM ?_; clear hM; intro gb W hM; first | (simp only [List.nil_append] at hM) | (simp only [List.cons_append, List.nil_append] at hM))
          | (refine at_alloc_ (T := 42) ?_; refine wpList_alloc_mem rfl 42 rfl _ zv_End _ rfl hM ?_; clear hM; intro gb W hM; first | (simp only [List.nil_append] at hM) | (simp only [List.cons_append, List.nil_append] at hM))
          | (refine at_load_ (T := 42) ?_; refine at_wanted_ (by go_simp) ?_; first | (refine wpList_loadg_mem (by go_simp) 42 _ rfl 0 _ _ _ hM rfl rfl _ Try.underlying42 rfl sz_End ?_) | (refine wpList_loadg_mem (by go_simp) 42 _ rfl 1 _ _ _ hM rfl rfl _ Try.underlying42 rfl sz_End ?_) | (refine wpList_loadg_mem (by go_simp) 42 _ rfl 2 _ _ _ hM rfl rfl _ Try.underlying42 rfl sz_End ?_) | (refine wpList_loadg_mem (by go_simp) 42 _ rfl 3 _ _ _ hM rfl rfl _ Try.underlying42 rfl sz_End ?_))
          | (refine at_store_ (T := 42) ?_; first | (refine wpList_store_mem rfl 42 _ _ rfl 0 _ _ _ _ hM rfl rfl rfl rfl sz_End rfl ?_; clear hM; intro W hM; simp only [List.set_cons_zero] at hM) | (refine wpList_store_mem rfl 42 _ _ rfl 1 _ _ _ _ hM rfl rfl rfl rfl sz_End rfl ?_; clear hM; intro W hM; simp only [List.set_cons_succ, List.set_cons_zero] at hM) | (refine wpList_store_mem rfl 42 _ _ rfl 2 _ _ _ _ hM rfl rfl rfl rfl sz_End rfl ?_; clear hM; intro W hM; simp only [List.set_cons_succ, List.set_cons_zero] at hM) | (refine wpList_store_mem rfl 42 _ _ rfl 3 _ _ _ _ hM rfl rfl rfl rfl sz_End rfl ?_; clear hM; intro W hM; simp only [List.set_cons_succ, List.set_cons_zero] at hM)))
      go_ret2
      exact ⟨rfl, hM.take_ 3⟩
    · have hn : ¬ (false = true ∨ 0 ≤ I) := by simp; omega
      rw [if_neg hn] at r1 r2 r3
      clear hn
      by_cases hl : (q.half.length : Int) = q.bl
      · rw [if_pos hl] at r1 r2
        rw [r1, r2, r3]
        clear r1 r2 r3
        have hl' : ((q.half.length : Int) == q.bl) = true := by simpa using hl
        clear hl
        go_enter Try.func26, Try.ntmps26
        go_upto_region 1 with         (first
          | (refine at_box_ ?_; refine wpList_box_mem rfl _ _ rfl _ rfl hM ?_; clear hM; intro gb W hM; first | (simp only [List.nil_append] at hM) | (simp only [List.cons_append, List.nil_append] at hM)))
        refine wp_region_M [0,3] [] hM (by kernel_rfl) ?_
        clear hM
        intro wo hM
        refine wpI_takeP (i := 0) (v := ?_) rfl (by kernel_rfl) (by kernel_rfl) (by kernel_rfl) (by first | exact fun _ _ _ h => h | exact fun _ _ _ h => HQ0.out _ _ _ _ h) (Or.inl ⟨by rfl, ?hy⟩) ?_
        case hy => (intro W; go_simp; (try with_reducible rfl))
        simp only [Act.put, List.getElem_toArray, List.getElem_cons_succ, List.getElem_cons_zero, List.setIfInBounds_toArray, List.set_cons_zero, List.set_cons_succ]
        refine wpI_takeP (i := 1) (v := ?_) rfl (by kernel_rfl) (by kernel_rfl) (by kernel_rfl) (by first | exact fun _ _ _ h => h | exact fun _ _ _ h => HQ0.out _ _ _ _ h) (Or.inl ⟨by rfl, ?hy⟩) ?_
        case hy => (intro W; go_simp; (try with_reducible rfl))
        simp only [Act.put, List.getElem_toArray, List.getElem_cons_succ, List.getElem_cons_zero, List.setIfInBounds_toArray, List.set_cons_zero, List.set_cons_succ]
        refine wpI_takeP (i := 2) (v := ?_) rfl (by kernel_rfl) (by kernel_rfl) (by kernel_rfl) (by first | exact fun _ _ _ h => h | exact fun _ _ _ h => HQ0.out _ _ _ _ h) (Or.inl ⟨by rfl, ?hy⟩) ?_
        case hy => (intro W; go_simp; (try with_reducible rfl))
        simp only [Act.put, List.getElem_toArray, List.getElem_cons_succ, List.getElem_cons_zero, List.setIfInBounds_toArray, List.set_cons_zero, List.set_cons_succ]
        refine wpI_take (i := 3) (v := ?_) rfl (by kernel_rfl) (by kernel_rfl) (by kernel_rfl) (by kernel_rfl) (by first | exact fun _ _ _ h => h | exact fun _ _ _ h => HQ0.out _ _ _ _ h) ⟨fun r hr => hM.get 0 hr, fun r hr => hM.get 3 hr, trivial⟩ (Or.inl ⟨by rfl, ?hy⟩) ?_
        case hy => (rintro W ⟨i0, i3, -⟩; have c0 := (show At W _ _ _ from i0 _ rfl).cell; have c3 := (show At W _ _ _ from i3 _ rfl).cell; (try simp only [lisC, cEnd] at c0 c3); go_simp; (try with_reducible rfl))
        simp only [Act.put, List.getElem_toArray, List.getElem_cons_succ, List.getElem_cons_zero, List.setIfInBounds_toArray, List.set_cons_zero, List.set_cons_succ]
        refine wpI_take (i := 4) (v := ?_) rfl (by kernel_rfl) (by kernel_rfl) (by kernel_rfl) (by kernel_rfl) (by first | exact fun _ _ _ h => h | exact fun _ _ _ h => HQ0.out _ _ _ _ h) ⟨fun r hr => hM.get 0 hr, fun r hr => hM.get 3 hr, trivial⟩ (Or.inl ⟨by rfl, ?hy⟩) ?_
        case hy => (rintro W ⟨i0, i3, -⟩; have c0 := (show At W _ _ _ from i0 _ rfl).cell; have c3 := (show At W _ _ _ from i3 _ rfl).cell; (try simp only [lisC, cEnd] at c0 c3); go_simp; (try with_reducible rfl))
        simp only [Act.put, List.getElem_toArray, List.getElem_cons_succ, List.getElem_cons_zero, List.setIfInBounds_toArray, List.set_cons_zero, List.set_cons_succ]
        refine wpI_one (i := 5) rfl (by kernel_rfl) ?_
        go_wp2_with (first
            | (refine at_lookup_ ?_; refine wpList_lookup_m (by go_simp) _ _ true rfl mapTy_lis (.int .i64 0) (fun _ => by kernel_rfl) 1 hM rfl rfl e rfl (keyOk_End he) ?_)
            | (refine at_box_ ?_; refine wpList_box_mem rfl _ _ rfl _ rfl hM ?_; clear hM; intro gb W hM; first | (simp only [List.nil_append] at hM) | (simp only [List.cons_append, List.nil_append] at hM)))
        refine contI_normal ⟨fun r hr => hM.get 0 hr, fun r hr => hM.get 3 hr, trivial⟩ ?_
        (try simp only [Act.put, List.getElem_toArray, List.getElem_cons_succ, List.getElem_cons_zero, List.setIfInBounds_toArray, List.set_cons_zero, List.set_cons_succ])
        refine wpI_takeP (i := 6) (v := ?_) rfl (by kernel_rfl) (by kernel_rfl) (by kernel_rfl) (by first | exact fun _ _ _ h => h | exact fun _ _ _ h => HQ0.out _ _ _ _ h) (Or.inl ⟨by rfl, ?hy⟩) ?_
        case hy => (intro W; go_simp; (try with_reducible rfl))
        simp only [Act.put, List.getElem_toArray, List.getElem_cons_succ, List.getElem_cons_zero, List.setIfInBounds_toArray, List.set_cons_zero, List.set_cons_succ]
        refine wpI_takeP (i := 7) (v := ?_) rfl (by kernel_rfl) (by kernel_rfl) (by kernel_rfl) (by first | exact fun _ _ _ h => h | exact fun _ _ _ h => HQ0.out _ _ _ _ h) (Or.inl ⟨by rfl, ?hy⟩) ?_
        case hy => (intro W; go_simp; (try with_reducible rfl))
        simp only [Act.put, List.getElem_toArray, List.getElem_cons_succ, List.getElem_cons_zero, List.setIfInBounds_toArray, List.set_cons_zero, List.set_cons_succ]
        refine wpI_takeP (i := 8) (v := ?_) rfl (by kernel_rfl) (by kernel_rfl) (by kernel_rfl) (by first | exact fun _ _ _ h => h | exact fun _ _ _ h => HQ0.out _ _ _ _ h) (Or.inl ⟨by rfl, ?hy⟩) ?_
        case hy => (intro W; go_simp; (try with_reducible rfl))
        simp only [Act.put, List.getElem_toArray, List.getElem_cons_succ, List.getElem_cons_zero, List.setIfInBounds_toArray, List.set_cons_zero, List.set_cons_succ]
        refine wpI_takeP (i := 9) (v := ?_) rfl (by kernel_rfl) (by kernel_rfl) (by kernel_rfl) (by first | exact fun _ _ _ h => h | exact fun _ _ _ h => HQ0.out _ _ _ _ h) (Or.inl ⟨by rfl, ?hy⟩) ?_
        case hy => (intro W; go_simp; (try with_reducible rfl))
        simp only [Act.put, List.getElem_toArray, List.getElem_cons_succ, List.getElem_cons_zero, List.setIfInBounds_toArray, List.set_cons_zero, List.set_cons_succ]
        refine wpI_takeP (i := 10) (v := ?_) rfl (by kernel_rfl) (by kernel_rfl) (by kernel_rfl) (by first | exact fun _ _ _ h => h | exact fun _ _ _ h => HQ0.out _ _ _ _ h) (Or.inl ⟨by rfl, ?hy⟩) ?_
        case hy => (intro W; go_simp; (try with_reducible rfl))
        simp only [Act.put, List.getElem_toArray, List.getElem_cons_succ, List.getElem_cons_zero, List.setIfInBounds_toArray, List.set_cons_zero, List.set_cons_succ]
        refine wpI_done (by kernel_rfl) ?_ _
        (try simp only [Act.put, List.getElem_toArray, List.getElem_cons_succ, List.getElem_cons_zero, List.setIfInBounds_toArray, List.set_cons_zero, List.set_cons_succ])
        go_upto_region 4 with         (first
          | (go_at_call 44; refine (HWT.out _ (hM.at_ 0 rfl) (hM.win_ 2 rfl)).mono ?_; rintro x W ⟨rfl, hb⟩; replace hM := hM.kept hb; clear hb; dsimp only)
          | (refine at_box_ ?_; refine wpList_box_mem rfl _ _ rfl _ rfl hM ?_; clear hM; intro gb W hM; first | (simp only [List.nil_append] at hM) | (simp only [List.cons_append, List.nil_append] at hM))
          | (refine at_alloc_ (T := 42) ?_; refine wpList_alloc_mem rfl 42 rfl _ zv_End _ rfl hM ?_; clear hM; intro gb W hM; first | (simp only [List.nil_append] at hM) | (simp only [List.cons_append, List.nil_append] at hM))
          | (refine at_load_ (T := 42) ?_; refine at_wanted_ (by go_simp) ?_; first | (refine wpList_loadg_mem (by go_simp) 42 _ rfl 0 _ _ _ hM rfl rfl _ Try.underlying42 rfl sz_End ?_) | (refine wpList_loadg_mem (by go_simp) 42 _ rfl 1 _ _ _ hM rfl rfl _ Try.underlying42 rfl sz_End ?_) | (refine wpList_loadg_mem (by go_simp) 42 _ rfl 2 _ _ _ hM rfl rfl _ Try.underlying42 rfl sz_End ?_) | (refine wpList_loadg_mem (by go_simp) 42 _ rfl 3 _ _ _ hM rfl rfl _ Try.underlying42 rfl sz_End ?_))
          | (refine at_store_ (T := 42) ?_; first | (refine wpList_store_mem rfl 42 _ _ rfl 0 _ _ _ _ hM rfl rfl rfl rfl sz_End rfl ?_; clear hM; intro W hM; simp only [List.set_cons_zero] at hM) | (refine wpList_store_mem rfl 42 _ _ rfl 1 _ _ _ _ hM rfl rfl rfl rfl sz_End rfl ?_; clear hM; intro W hM; simp only [List.set_cons_succ, List.set_cons_zero] at hM) | (refine wpList_store_mem rfl 42 _ _ rfl 2 _ _ _ _ hM rfl rfl rfl rfl sz_End rfl ?_; clear hM; intro W hM; simp only [List.set_cons_succ, List.set_cons_zero] at hM) | (refine wpList_store_mem rfl 42 _ _ rfl 3 _ _ _ _ hM rfl rfl rfl rfl sz_End rfl ?_; clear hM; intro W hM; simp only [List.set_cons_succ, List.set_cons_zero] at hM)))
        refine wp_region_M [0] [] hM (by kernel_rfl) ?_
        clear hM
        intro wo hM
        refine wpI_takeP (i := 0) (v := ?_) rfl (by kernel_rfl) (by kernel_rfl) (by kernel_rfl) (by first | exact fun _ _ _ h => h | exact fun _ _ _ h => HQ0.out _ _ _ _ h) (Or.inl ⟨by rfl, ?hy⟩) ?_
        case hy => (intro W; go_simp; (try with_reducible rfl))
        simp only [Act.put, List.getElem_toArray, List.getElem_cons_succ, List.getElem_cons_zero, List.setIfInBounds_toArray, List.set_cons_zero, List.set_cons_succ]
        refine wpI_takeP (i := 1) (v := ?_) rfl (by kernel_rfl) (by kernel_rfl) (by kernel_rfl) (by first | exact fun _ _ _ h => h | exact fun _ _ _ h => HQ0.out _ _ _ _ h) (Or.inl ⟨by rfl, ?hy⟩) ?_
        case hy => (intro W; go_simp; (try with_reducible rfl))
        simp only [Act.put, List.getElem_toArray, List.getElem_cons_succ, List.getElem_cons_zero, List.setIfInBounds_toArray, List.set_cons_zero, List.set_cons_succ]
        refine wpI_takeP (i := 2) (v := ?_) rfl (by kernel_rfl) (by kernel_rfl) (by kernel_rfl) (by first | exact fun _ _ _ h => h | exact fun _ _ _ h => HQ0.out _ _ _ _ h) (Or.inl ⟨by rfl, ?hy⟩) ?_
        case hy => (intro W; go_simp; (try with_reducible rfl))
        simp only [Act.put, List.getElem_toArray, List.getElem_cons_succ, List.getElem_cons_zero, List.setIfInBounds_toArray, List.set_cons_zero, List.set_cons_succ]
        refine wpI_take (i := 3) (v := ?_) rfl (by kernel_rfl) (by kernel_rfl) (by kernel_rfl) (by kernel_rfl) (by first | exact fun _ _ _ h => h | exact fun _ _ _ h => HQ0.out _ _ _ _ h) ⟨fun r hr => hM.get 0 hr, trivial⟩ (Or.inl ⟨by rfl, ?hy⟩) ?_
        case hy => (rintro W ⟨i0, -⟩; have c0 := (show At W _ _ _ from i0 _ rfl).cell; (try simp only [lisC, cEnd] at c0); go_simp; (try with_reducible rfl))
        simp only [Act.put, List.getElem_toArray, List.getElem_cons_succ, List.getElem_cons_zero, List.setIfInBounds_toArray, List.set_cons_zero, List.set_cons_succ]
        refine wpI_takeP (i := 5) (v := ?_) rfl (by kernel_rfl) (by kernel_rfl) (by kernel_rfl) (by first | exact fun _ _ _ h => h | exact fun _ _ _ h => HQ0.out _ _ _ _ h) (Or.inl ⟨by rfl, ?hy⟩) ?_
        case hy => (intro W; go_simp; (try with_reducible rfl))
        simp only [Act.put, List.getElem_toArray, List.getElem_cons_succ, List.getElem_cons_zero, List.setIfInBounds_toArray, List.set_cons_zero, List.set_cons_succ]
        refine wpI_takeP (i := 6) (v := ?_) rfl (by kernel_rfl) (by kernel_rfl) (by kernel_rfl) (by first | exact fun _ _ _ h => h | exact fun _ _ _ h => HQ0.out _ _ _ _ h) (Or.inl ⟨by rfl, ?hy⟩) ?_
        case hy => (intro W; go_simp; (try with_reducible rfl))
        simp only [Act.put, List.getElem_toArray, List.getElem_cons_succ, List.getElem_cons_zero, List.setIfInBounds_toArray, List.set_cons_zero, List.set_cons_succ]
        refine wpI_takeP (i := 7) (v := ?_) rfl (by kernel_rfl) (by kernel_rfl) (by kernel_rfl) (by first | exact fun _ _ _ h => h | exact fun _ _ _ h => HQ0.out _ _ _ _ h) (Or.inl ⟨by rfl, ?hy⟩) ?_
        case hy => (intro W; go_simp; (try with_reducible rfl))
        simp only [Act.put, List.getElem_toArray, List.getElem_cons_succ, List.getElem_cons_zero, List.setIfInBounds_toArray, List.set_cons_zero, List.set_cons_succ]
        refine wpI_take (i := 8) (v := ?_) rfl (by kernel_rfl) (by kernel_rfl) (by kernel_rfl) (by kernel_rfl) (by first | exact fun _ _ _ h => h | exact fun _ _ _ h => HQ0.out _ _ _ _ h) ⟨fun r hr => hM.get 0 hr, trivial⟩ (Or.inl ⟨by rfl, ?hy⟩) ?_
        case hy => (rintro W ⟨i0, -⟩; have c0 := (show At W _ _ _ from i0 _ rfl).cell; (try simp only [lisC, cEnd] at c0); go_simp; (try with_reducible rfl))
        simp only [Act.put, List.getElem_toArray, List.getElem_cons_succ, List.getElem_cons_zero, List.setIfInBounds_toArray, List.set_cons_zero, List.set_cons_succ]
        refine wpI_one (i := 4) rfl (by kernel_rfl) ?_
        go_wp2_with (first
            | (refine at_len_ ?_; refine wpList_len_m rfl _ rfl mapTy_lis.ht 1 hM rfl rfl ?_)
            | (refine at_box_ ?_; refine wpList_box_mem rfl _ _ rfl _ rfl hM ?_; clear hM; intro gb W hM; first | (simp only [List.nil_append] at hM) | (simp only [List.cons_append, List.nil_append] at hM)))
        refine contI_normal ⟨fun r hr => hM.get 0 hr, trivial⟩ ?_
        (try simp only [Act.put, List.getElem_toArray, List.getElem_cons_succ, List.getElem_cons_zero, List.setIfInBounds_toArray, List.set_cons_zero, List.set_cons_succ])
        refine wpI_takeP (i := 9) (v := ?_) rfl (by kernel_rfl) (by kernel_rfl) (by kernel_rfl) (by first | exact fun _ _ _ h => h | exact fun _ _ _ h => HQ0.out _ _ _ _ h) (Or.inl ⟨by rfl, ?hy⟩) ?_
        case hy => (intro W; go_simp; (try with_reducible rfl))
        simp only [Act.put, List.getElem_toArray, List.getElem_cons_succ, List.getElem_cons_zero, List.setIfInBounds_toArray, List.set_cons_zero, List.set_cons_succ]
        refine wpI_done (by kernel_rfl) ?_ _
        (try simp only [Act.put, List.getElem_toArray, List.getElem_cons_succ, List.getElem_cons_zero, List.setIfInBounds_toArray, List.set_cons_zero, List.set_cons_succ])
        go_wp2_with fail
        go_ret2
        exact ⟨rfl, hM.take_ 3⟩
      · rw [if_neg hl] at r1 r2
        rw [r1, r2, r3]
        clear r1 r2 r3
        have hl' : ((q.half.length : Int) == q.bl) = false := by simpa using hl
        clear hl
        go_enter Try.func26, Try.ntmps26
        go_upto_region 1 with         (first
          | (refine at_box_ ?_; refine wpList_box_mem rfl _ _ rfl _ rfl hM ?_; clear hM; intro gb W hM; first | (simp only [List.nil_append] at hM) | (simp only [List.cons_append, List.nil_append] at hM)))
        refine wp_region_M [0,3] [] hM (by kernel_rfl) ?_
        clear hM
        intro wo hM
        refine wpI_takeP (i := 0) (v := ?_) rfl (by kernel_rfl) (by kernel_rfl) (by kernel_rfl) (by first | exact fun _ _ _ h => h | exact fun _ _ _ h => HQ0.out _ _ _ _ h) (Or.inl ⟨by rfl, ?hy⟩) ?_
        case hy => (intro W; go_simp; (try with_reducible rfl))
        simp only [Act.put, List.getElem_toArray, List.getElem_cons_succ, List.getElem_cons_zero, List.setIfInBounds_toArray, List.set_cons_zero, List.set_cons_succ]
        refine wpI_takeP (i := 1) (v := ?_) rfl (by kernel_rfl) (by kernel_rfl) (by kernel_rfl) (by first | exact fun _ _ _ h => h | exact fun _ _ _ h => HQ0.out _ _ _ _ h) (Or.inl ⟨by rfl, ?hy⟩) ?_
        case hy => (intro W; go_simp; (try with_reducible rfl))
        simp only [Act.put, List.getElem_toArray, List.getElem_cons_succ, List.getElem_cons_zero, List.setIfInBounds_toArray, List.set_cons_zero, List.set_cons_succ]
        refine wpI_takeP (i := 2) (v := ?_) rfl (by kernel_rfl) (by kernel_rfl) (by kernel_rfl) (by first | exact fun _ _ _ h => h | exact fun _ _ _ h => HQ0.out _ _ _ _ h) (Or.inl ⟨by rfl, ?hy⟩) ?_
        case hy => (intro W; go_simp; (try with_reducible rfl))
        simp only [Act.put, List.getElem_toArray, List.getElem_cons_succ, List.getElem_cons_zero, List.setIfInBounds_toArray, List.set_cons_zero, List.set_cons_succ]
        refine wpI_take (i := 3) (v := ?_) rfl (by kernel_rfl) (by kernel_rfl) (by kernel_rfl) (by kernel_rfl) (by first | exact fun _ _ _ h => h | exact fun _ _ _ h => HQ0.out _ _ _ _ h) ⟨fun r hr => hM.get 0 hr, fun r hr => hM.get 3 hr, trivial⟩ (Or.inl ⟨by rfl, ?hy⟩) ?_
        case hy => (rintro W ⟨i0, i3, -⟩; have c0 := (show At W _ _ _ from i0 _ rfl).cell; have c3 := (show At W _ _ _ from i3 _ rfl).cell; (try simp only [lisC, cEnd] at c0 c3); go_simp; (try with_reducible rfl))
        simp only [Act.put, List.getElem_toArray, List.getElem_cons_succ, List.getElem_cons_zero, List.setIfInBounds_toArray, List.set_cons_zero, List.set_cons_succ]
        refine wpI_take (i := 4) (v := ?_) rfl (by kernel_rfl) (by kernel_rfl) (by kernel_rfl) (by kernel_rfl) (by first | exact fun _ _ _ h => h | exact fun _ _ _ h => HQ0.out _ _ _ _ h) ⟨fun r hr => hM.get 0 hr, fun r hr => hM.get 3 hr, trivial⟩ (Or.inl ⟨by rfl, ?hy⟩) ?_
        case hy => (rintro W ⟨i0, i3, -⟩; have c0 := (show At W _ _ _ from i0 _ rfl).cell; have c3 := (show At W _ _ _ from i3 _ rfl).cell; (try simp only [lisC, cEnd] at c0 c3); go_simp; (try with_reducible rfl))
        simp only [Act.put, List.getElem_toArray, List.getElem_cons_succ, List.getElem_cons_zero, List.setIfInBounds_toArray, List.set_cons_zero, List.set_cons_succ]
        refine wpI_one (i := 5) rfl (by kernel_rfl) ?_
        go_wp2_with (first
            | (refine at_lookup_ ?_; refine wpList_lookup_m (by go_simp) _ _ true rfl mapTy_lis (.int .i64 0) (fun _ => by kernel_rfl) 1 hM rfl rfl e rfl (keyOk_End he) ?_)
            | (refine at_box_ ?_; refine wpList_box_mem rfl _ _ rfl _ rfl hM ?_; clear hM; intro gb W hM; first | (simp only [List.nil_append] at hM) | (simp only [List.cons_append, List.nil_append] at hM)))
        refine contI_normal ⟨fun r hr => hM.get 0 hr, fun r hr => hM.get 3 hr, trivial⟩ ?_
        (try simp only [Act.put, List.getElem_toArray, List.getElem_cons_succ, List.getElem_cons_zero, List.setIfInBounds_toArray, List.set_cons_zero, List.set_cons_succ])
        refine wpI_takeP (i := 6) (v := ?_) rfl (by kernel_rfl) (by kernel_rfl) (by kernel_rfl) (by first | exact fun _ _ _ h => h | exact fun _ _ _ h => HQ0.out _ _ _ _ h) (Or.inl ⟨by rfl, ?hy⟩) ?_
        case hy => (intro W; go_simp; (try with_reducible rfl))
        simp only [Act.put, List.getElem_toArray, List.getElem_cons_succ, List.getElem_cons_zero, List.setIfInBounds_toArray, List.set_cons_zero, List.set_cons_succ]
        refine wpI_takeP (i := 7) (v := ?_) rfl (by kernel_rfl) (by kernel_rfl) (by kernel_rfl) (by first | exact fun _ _ _ h => h | exact fun _ _ _ h => HQ0.out _ _ _ _ h) (Or.inl ⟨by rfl, ?hy⟩) ?_
        case hy => (intro W; go_simp; (try with_reducible rfl))
        simp only [Act.put, List.getElem_toArray, List.getElem_cons_succ, List.getElem_cons_zero, List.setIfInBounds_toArray, List.set_cons_zero, List.set_cons_succ]
        refine wpI_takeP (i := 8) (v := ?_) rfl (by kernel_rfl) (by kernel_rfl) (by kernel_rfl) (by first | exact fun _ _ _ h => h | exact fun _ _ _ h => HQ0.out _ _ _ _ h) (Or.inl ⟨by rfl, ?hy⟩) ?_
        case hy => (intro W; go_simp; (try with_reducible rfl))
        simp only [Act.put, List.getElem_toArray, List.getElem_cons_succ, List.getElem_cons_zero, List.setIfInBounds_toArray, List.set_cons_zero, List.set_cons_succ]
        refine wpI_takeP (i := 9) (v := ?_) rfl (by kernel_rfl) (by kernel_rfl) (by kernel_rfl) (by first | exact fun _ _ _ h => h | exact fun _ _ _ h => HQ0.out _ _ _ _ h) (Or.inl ⟨by rfl, ?hy⟩) ?_
        case hy => (intro W; go_simp; (try with_reducible rfl))
        simp only [Act.put, List.getElem_toArray, List.getElem_cons_succ, List.getElem_cons_zero, List.setIfInBounds_toArray, List.set_cons_zero, List.set_cons_succ]
        refine wpI_takeP (i := 10) (v := ?_) rfl (by kernel_rfl) (by kernel_rfl) (by kernel_rfl) (by first | exact fun _ _ _ h => h | exact fun _ _ _ h => HQ0.out _ _ _ _ h) (Or.inl ⟨by rfl, ?hy⟩) ?_
        case hy => (intro W; go_simp; (try with_reducible rfl))
        simp only [Act.put, List.getElem_toArray, List.getElem_cons_succ, List.getElem_cons_zero, List.setIfInBounds_toArray, List.set_cons_zero, List.set_cons_succ]
        refine wpI_done (by kernel_rfl) ?_ _
        (try simp only [Act.put, List.getElem_toArray, List.getElem_cons_succ, List.getElem_cons_zero, List.setIfInBounds_toArray, List.set_cons_zero, List.set_cons_succ])
        go_upto_region 4 with         (first
          | (go_at_call 44; refine (HWT.out _ (hM.at_ 0 rfl) (hM.win_ 2 rfl)).mono ?_; rintro x W ⟨rfl, hb⟩; replace hM := hM.kept hb; clear hb; dsimp only)
          | (refine at_box_ ?_; refine wpList_box_mem rfl _ _ rfl _ rfl hM ?_; clear hM; intro gb W hM; first | (simp only [List.nil_append] at hM) | (simp only [List.cons_append, List.nil_append] at hM))
          | (refine at_alloc_ (T := 42) ?_; refine wpList_alloc_mem rfl 42 rfl _ zv_End _ rfl hM ?_; clear hM; intro gb W hM; first | (simp only [List.nil_append] at hM) | (simp only [List.cons_append, List.nil_append] at hM))
          | (refine at_load_ (T := 42) ?_; refine at_wanted_ (by go_simp) ?_; first | (refine wpList_loadg_mem (by go_simp) 42 _ rfl 0 _ _ _ hM rfl rfl _ Try.underlying42 rfl sz_End ?_) | (refine wpList_loadg_mem (by go_simp) 42 _ rfl 1 _ _ _ hM rfl rfl _ Try.underlying42 rfl sz_End ?_) | (refine wpList_loadg_mem (by go_simp) 42 _ rfl 2 _ _ _ hM rfl rfl _ Try.underlying42 rfl sz_End ?_) | (refine wpList_loadg_mem (by go_simp) 42 _ rfl 3 _ _ _ hM rfl rfl _ Try.underlying42 rfl sz_End ?_))
          | (refine at_store_ (T := 42) ?_; first | (refine wpList_store_mem rfl 42 _ _ rfl 0 _ _ _ _ hM rfl rfl rfl rfl sz_End rfl ?_; clear hM; intro W hM; simp only [List.set_cons_zero] at hM) | (refine wpList_store_mem rfl 42 _ _ rfl 1 _ _ _ _ hM rfl rfl rfl rfl sz_End rfl ?_; clear hM; intro W hM; simp only [List.set_cons_succ, List.set_cons_zero] at hM) | (refine wpList_store_mem rfl 42 _ _ rfl 2 _ _ _ _ hM rfl rfl rfl rfl sz_End rfl ?_; clear hM; intro W hM; simp only [List.set_cons_succ, List.set_cons_zero] at hM) | (refine wpList_store_mem rfl 42 _ _ rfl 3 _ _ _ _ hM rfl rfl rfl rfl sz_End rfl ?_; clear hM; intro W hM; simp only [List.set_cons_succ, List.set_cons_zero] at hM)))
        refine wp_region_M [0] [] hM (by kernel_rfl) ?_
        clear hM
        intro wo hM
        refine wpI_takeP (i := 0) (v := ?_) rfl (by kernel_rfl) (by kernel_rfl) (by kernel_rfl) (by first | exact fun _ _ _ h => h | exact fun _ _ _ h => HQ0.out _ _ _ _ h) (Or.inl ⟨by rfl, ?hy⟩) ?_
        case hy => (intro W; go_simp; (try with_reducible rfl))
        simp only [Act.put, List.getElem_toArray, List.getElem_cons_succ, List.getElem_cons_zero, List.setIfInBounds_toArray, List.set_cons_zero, List.set_cons_succ]
        refine wpI_takeP (i := 1) (v := ?_) rfl (by kernel_rfl) (by kernel_rfl) (by kernel_rfl) (by first | exact fun _ _ _ h => h | exact fun _ _ _ h => HQ0.out _ _ _ _ h) (Or.inl ⟨by rfl, ?hy⟩) ?_
        case hy => (intro W; go_simp; (try with_reducible rfl))
        simp only [Act.put, List.getElem_toArray, List.getElem_cons_succ, List.getElem_cons_zero, List.setIfInBounds_toArray, List.set_cons_zero, List.set_cons_succ]
        refine wpI_takeP (i := 2) (v := ?_) rfl (by kernel_rfl) (by kernel_rfl) (by kernel_rfl) (by first | exact fun _ _ _ h => h | exact fun _ _ _ h => HQ0.out _ _ _ _ h) (Or.inl ⟨by rfl, ?hy⟩) ?_
        case hy => (intro W; go_simp; (try with_reducible rfl))
        simp only [Act.put, List.getElem_toArray, List.getElem_cons_succ, List.getElem_cons_zero, List.setIfInBounds_toArray, List.set_cons_zero, List.set_cons_succ]
        refine wpI_take (i := 3) (v := ?_) rfl (by kernel_rfl) (by kernel_rfl) (by kernel_rfl) (by kernel_rfl) (by first | exact fun _ _ _ h => h | exact fun _ _ _ h => HQ0.out _ _ _ _ h) ⟨fun r hr => hM.get 0 hr, trivial⟩ (Or.inl ⟨by rfl, ?hy⟩) ?_
        case hy => (rintro W ⟨i0, -⟩; have c0 := (show At W _ _ _ from i0 _ rfl).cell; (try simp only [lisC, cEnd] at c0); go_simp; (try with_reducible rfl))
        simp only [Act.put, List.getElem_toArray, List.getElem_cons_succ, List.getElem_cons_zero, List.setIfInBounds_toArray, List.set_cons_zero, List.set_cons_succ]
        refine wpI_takeP (i := 5) (v := ?_) rfl (by kernel_rfl) (by kernel_rfl) (by kernel_rfl) (by first | exact fun _ _ _ h => h | exact fun _ _ _ h => HQ0.out _ _ _ _ h) (Or.inl ⟨by rfl, ?hy⟩) ?_
        case hy => (intro W; go_simp; (try with_reducible rfl))
        simp only [Act.put, List.getElem_toArray, List.getElem_cons_succ, List.getElem_cons_zero, List.setIfInBounds_toArray, List.set_cons_zero, List.set_cons_succ]
        refine wpI_takeP (i := 6) (v := ?_) rfl (by kernel_rfl) (by kernel_rfl) (by kernel_rfl) (by first | exact fun _ _ _ h => h | exact fun _ _ _ h => HQ0.out _ _ _ _ h) (Or.inl ⟨by rfl, ?hy⟩) ?_
        case hy => (intro W; go_simp; (try with_reducible rfl))
        simp only [Act.put, List.getElem_toArray, List.getElem_cons_succ, List.getElem_cons_zero, List.setIfInBounds_toArray, List.set_cons_zero, List.set_cons_succ]
        refine wpI_takeP (i := 7) (v := ?_) rfl (by kernel_rfl) (by kernel_rfl) (by kernel_rfl) (by first | exact fun _ _ _ h => h | exact fun _ _ _ h => HQ0.out _ _ _ _ h) (Or.inl ⟨by rfl, ?hy⟩) ?_
        case hy => (intro W; go_simp; (try with_reducible rfl))
        simp only [Act.put, List.getElem_toArray, List.getElem_cons_succ, List.getElem_cons_zero, List.setIfInBounds_toArray, List.set_cons_zero, List.set_cons_succ]
        refine wpI_take (i := 8) (v := ?_) rfl (by kernel_rfl) (by kernel_rfl) (by kernel_rfl) (by kernel_rfl) (by first | exact fun _ _ _ h => h | exact fun _ _ _ h => HQ0.out _ _ _ _ h) ⟨fun r hr => hM.get 0 hr, trivial⟩ (Or.inl ⟨by rfl, ?hy⟩) ?_
        case hy => (rintro W ⟨i0, -⟩; have c0 := (show At W _ _ _ from i0 _ rfl).cell; (try simp only [lisC, cEnd] at c0); go_simp; (try with_reducible rfl))
        simp only [Act.put, List.getElem_toArray, List.getElem_cons_succ, List.getElem_cons_zero, List.setIfInBounds_toArray, List.set_cons_zero, List.set_cons_succ]
        refine wpI_one (i := 4) rfl (by kernel_rfl) ?_
        go_wp2_with (first
            | (refine at_len_ ?_; refine wpList_len_m rfl _ rfl mapTy_lis.ht 1 hM rfl rfl ?_)
            | (refine at_box_ ?_; refine wpList_box_mem rfl _ _ rfl _ rfl hM ?_; clear hM; intro gb W hM; first | (simp only [List.nil_append] at hM) | (simp only [List.cons_append, List.nil_append] at hM)))
        refine contI_normal ⟨fun r hr => hM.get 0 hr, trivial⟩ ?_
        (try simp only [Act.put, List.getElem_toArray, List.getElem_cons_succ, List.getElem_cons_zero, List.setIfInBounds_toArray, List.set_cons_zero, List.set_cons_succ])
        refine wpI_takeP (i := 9) (v := ?_) rfl (by kernel_rfl) (by kernel_rfl) (by kernel_rfl) (by first | exact fun _ _ _ h => h | exact fun _ _ _ h => HQ0.out _ _ _ _ h) (Or.inl ⟨by rfl, ?hy⟩) ?_
        case hy => (intro W; go_simp; (try with_reducible rfl))
        simp only [Act.put, List.getElem_toArray, List.getElem_cons_succ, List.getElem_cons_zero, List.setIfInBounds_toArray, List.set_cons_zero, List.set_cons_succ]
        refine wpI_done (by kernel_rfl) ?_ _
        (try simp only [Act.put, List.getElem_toArray, List.getElem_cons_succ, List.getElem_cons_zero, List.setIfInBounds_toArray, List.set_cons_zero, List.set_cons_succ])
        go_upto_region 6 with (fail)
        refine wp_region_M [0,3] [] hM (by kernel_rfl) ?_
        clear hM
        intro wo hM
        refine wpI_takeP (i := 0) (v := ?_) rfl (by kernel_rfl) (by kernel_rfl) (by kernel_rfl) (by first | exact fun _ _ _ h => h | exact fun _ _ _ h => HQ0.out _ _ _ _ h) (Or.inl ⟨by rfl, ?hy⟩) ?_
        case hy => (intro W; go_simp; (try with_reducible rfl))
        simp only [Act.put, List.getElem_toArray, List.getElem_cons_succ, List.getElem_cons_zero, List.setIfInBounds_toArray, List.set_cons_zero, List.set_cons_succ]
        refine wpI_takeP (i := 1) (v := ?_) rfl (by kernel_rfl) (by kernel_rfl) (by kernel_rfl) (by first | exact fun _ _ _ h => h | exact fun _ _ _ h => HQ0.out _ _ _ _ h) (Or.inl ⟨by rfl, ?hy⟩) ?_
        case hy => (intro W; go_simp; (try with_reducible rfl))
        simp only [Act.put, List.getElem_toArray, List.getElem_cons_succ, List.getElem_cons_zero, List.setIfInBounds_toArray, List.set_cons_zero, List.set_cons_succ]
        refine wpI_takeP (i := 2) (v := ?_) rfl (by kernel_rfl) (by kernel_rfl) (by kernel_rfl) (by first | exact fun _ _ _ h => h | exact fun _ _ _ h => HQ0.out _ _ _ _ h) (Or.inl ⟨by rfl, ?hy⟩) ?_
        case hy => (intro W; go_simp; (try with_reducible rfl))
        simp only [Act.put, List.getElem_toArray, List.getElem_cons_succ, List.getElem_cons_zero, List.setIfInBounds_toArray, List.set_cons_zero, List.set_cons_succ]
        refine wpI_take (i := 3) (v := ?_) rfl (by kernel_rfl) (by kernel_rfl) (by kernel_rfl) (by kernel_rfl) (by first | exact fun _ _ _ h => h | exact fun _ _ _ h => HQ0.out _ _ _ _ h) ⟨fun r hr => hM.get 0 hr, fun r hr => hM.get 3 hr, trivial⟩ (Or.inl ⟨by rfl, ?hy⟩) ?_
        case hy => (rintro W ⟨i0, i3, -⟩; have c0 := (show At W _ _ _ from i0 _ rfl).cell; have c3 := (show At W _ _ _ from i3 _ rfl).cell; (try simp only [lisC, cEnd] at c0 c3); go_simp; (try with_reducible rfl))
        simp only [Act.put, List.getElem_toArray, List.getElem_cons_succ, List.getElem_cons_zero, List.setIfInBounds_toArray, List.set_cons_zero, List.set_cons_succ]
        refine wpI_take (i := 4) (v := ?_) rfl (by kernel_rfl) (by kernel_rfl) (by kernel_rfl) (by kernel_rfl) (by first | exact fun _ _ _ h => h | exact fun _ _ _ h => HQ0.out _ _ _ _ h) ⟨fun r hr => hM.get 0 hr, fun r hr => hM.get 3 hr, trivial⟩ (Or.inl ⟨by rfl, ?hy⟩) ?_
        case hy => (rintro W ⟨i0, i3, -⟩; have c0 := (show At W _ _ _ from i0 _ rfl).cell; have c3 := (show At W _ _ _ from i3 _ rfl).cell; (try simp only [lisC, cEnd] at c0 c3); go_simp; (try with_reducible rfl))
        simp only [Act.put, List.getElem_toArray, List.getElem_cons_succ, List.getElem_cons_zero, List.setIfInBounds_toArray, List.set_cons_zero, List.set_cons_succ]
        refine wpI_one (i := 5) rfl (by kernel_rfl) ?_
        go_wp2_with (first
            | (refine at_mapUpdate_ ?_; refine wpList_mapUpdate_m rfl _ _ _ rfl mapTy_lis 1 hM rfl rfl e rfl (keyOk_End he) 1 rfl ?_; clear hM; intro W hM; simp only [List.set_cons_succ, List.set_cons_zero] at hM)
            | (refine at_box_ ?_; refine wpList_box_mem rfl _ _ rfl _ rfl hM ?_; clear hM; intro gb W hM; first | (simp only [List.nil_append] at hM) | (simp only [List.cons_append, List.nil_append] at hM)))
        refine contI_normal ⟨fun r hr => hM.get 0 hr, fun r hr => hM.get 3 hr, trivial⟩ ?_
        (try simp only [Act.put, List.getElem_toArray, List.getElem_cons_succ, List.getElem_cons_zero, List.setIfInBounds_toArray, List.set_cons_zero, List.set_cons_succ])
        refine wpI_done (by kernel_rfl) ?_ _
        (try simp only [Act.put, List.getElem_toArray, List.getElem_cons_succ, List.getElem_cons_zero, List.setIfInBounds_toArray, List.set_cons_zero, List.set_cons_succ])
        go_wp2_with fail
        go_ret2
        exact ⟨rfl, hM.take_ 3⟩
  · rw [hh, if_pos (Or.inl rfl)] at r1 r2 r3
    rw [r1, r2, r3]
    clear r1 r2 r3
    go_enter Try.func26, Try.ntmps26
    go_upto_region 1 with         (first
          | (refine at_box_ ?_; refine wpList_box_mem rfl _ _ rfl _ rfl hM ?_; clear hM; intro gb W hM; first | (simp only [List.nil_append] at hM) | (simp only [List.cons_append, List.nil_append] at hM)))
    refine wp_region_M [0,3] [] hM (by kernel_rfl) ?_
    clear hM
    intro wo hM
    refine wpI_takeP (i := 0) (v := ?_) rfl (by kernel_rfl) (by kernel_rfl) (by kernel_rfl) (by first | exact fun _ _ _ h => h | exact fun _ _ _ h => HQ0.out _ _ _ _ h) (Or.inl ⟨by rfl, ?hy⟩) ?_
    case hy => (intro W; go_simp; (try with_reducible rfl))
    simp only [Act.put, List.getElem_toArray, List.getElem_cons_succ, List.getElem_cons_zero, List.setIfInBounds_toArray, List.set_cons_zero, List.set_cons_succ]
    refine wpI_takeP (i := 1) (v := ?_) rfl (by kernel_rfl) (by kernel_rfl) (by kernel_rfl) (by first | exact fun _ _ _ h => h | exact fun _ _ _ h => HQ0.out _ _ _ _ h) (Or.inl ⟨by rfl, ?hy⟩) ?_
    case hy => (intro W; go_simp; (try with_reducible rfl))
    simp only [Act.put, List.getElem_toArray, List.getElem_cons_succ, List.getElem_cons_zero, List.setIfInBounds_toArray, List.set_cons_zero, List.set_cons_succ]
    refine wpI_takeP (i := 2) (v := ?_) rfl (by kernel_rfl) (by kernel_rfl) (by kernel_rfl) (by first | exact fun _ _ _ h => h | exact fun _ _ _ h => HQ0.out _ _ _ _ h) (Or.inl ⟨by rfl, ?hy⟩) ?_
    case hy => (intro W; go_simp; (try with_reducible rfl))
    simp only [Act.put, List.getElem_toArray, List.getElem_cons_succ, List.getElem_cons_zero, List.setIfInBounds_toArray, List.set_cons_zero, List.set_cons_succ]
    refine wpI_take (i := 3) (v := ?_) rfl (by kernel_rfl) (by kernel_rfl) (by kernel_rfl) (by kernel_rfl) (by first | exact fun _ _ _ h => h | exact fun _ _ _ h => HQ0.out _ _ _ _ h) ⟨fun r hr => hM.get 0 hr, fun r hr => hM.get 3 hr, trivial⟩ (Or.inl ⟨by rfl, ?hy⟩) ?_
    case hy => (rintro W ⟨i0, i3, -⟩; have c0 := (show At W _ _ _ from i0 _ rfl).cell; have c3 := (show At W _ _ _ from i3 _ rfl).cell; (try simp only [lisC, cEnd] at c0 c3); go_simp; (try with_reducible rfl))
    simp only [Act.put, List.getElem_toArray, List.getElem_cons_succ, List.getElem_cons_zero, List.setIfInBounds_toArray, List.set_cons_zero, List.set_cons_succ]
    refine wpI_take (i := 4) (v := ?_) rfl (by kernel_rfl) (by kernel_rfl) (by kernel_rfl) (by kernel_rfl) (by first | exact fun _ _ _ h => h | exact fun _ _ _ h => HQ0.out _ _ _ _ h) ⟨fun r hr => hM.get 0 hr, fun r hr => hM.get 3 hr, trivial⟩ (Or.inl ⟨by rfl, ?hy⟩) ?_
    case hy => (rintro W ⟨i0, i3, -⟩; have c0 := (show At W _ _ _ from i0 _ rfl).cell; have c3 := (show At W _ _ _ from i3 _ rfl).cell; (try simp only [lisC, cEnd] at c0 c3); go_simp; (try with_reducible rfl))
    simp only [Act.put, List.getElem_toArray, List.getElem_cons_succ, List.getElem_cons_zero, List.setIfInBounds_toArray, List.set_cons_zero, List.set_cons_succ]
    refine wpI_one (i := 5) rfl (by kernel_rfl) ?_
    go_wp2_with (first
        | (refine at_lookup_ ?_; refine wpList_lookup_m (by go_simp) _ _ true rfl mapTy_lis (.int .i64 0) (fun _ => by kernel_rfl) 1 hM rfl rfl e rfl (keyOk_End he) ?_)
        | (refine at_box_ ?_; refine wpList_box_mem rfl _ _ rfl _ rfl hM ?_; clear hM; intro gb W hM; first | (simp only [List.nil_append] at hM) | (simp only [List.cons_append, List.nil_append] at hM)))
    refine contI_normal ⟨fun r hr => hM.get 0 hr, fun r hr => hM.get 3 hr, trivial⟩ ?_
    (try simp only [Act.put, List.getElem_toArray, List.getElem_cons_succ, List.getElem_cons_zero, List.setIfInBounds_toArray, List.set_cons_zero, List.set_cons_succ])
    refine wpI_takeP (i := 6) (v := ?_) rfl (by kernel_rfl) (by kernel_rfl) (by kernel_rfl) (by first | exact fun _ _ _ h => h | exact fun _ _ _ h => HQ0.out _ _ _ _ h) (Or.inl ⟨by rfl, ?hy⟩) ?_
    case hy => (intro W; go_simp; (try with_reducible rfl))
    simp only [Act.put, List.getElem_toArray, List.getElem_cons_succ, List.getElem_cons_zero, List.setIfInBounds_toArray, List.set_cons_zero, List.set_cons_succ]
    refine wpI_takeP (i := 7) (v := ?_) rfl (by kernel_rfl) (by kernel_rfl) (by kernel_rfl) (by first | exact fun _ _ _ h => h | exact fun _ _ _ h => HQ0.out _ _ _ _ h) (Or.inl ⟨by rfl, ?hy⟩) ?_
    case hy => (intro W; go_simp; (try with_reducible rfl))
    simp only [Act.put, List.getElem_toArray, List.getElem_cons_succ, List.getElem_cons_zero, List.setIfInBounds_toArray, List.set_cons_zero, List.set_cons_succ]
    refine wpI_takeP (i := 8) (v := ?_) rfl (by kernel_rfl) (by kernel_rfl) (by kernel_rfl) (by first | exact fun _ _ _ h => h | exact fun _ _ _ h => HQ0.out _ _ _ _ h) (Or.inl ⟨by rfl, ?hy⟩) ?_
    case hy => (intro W; go_simp; (try with_reducible rfl))
    simp only [Act.put, List.getElem_toArray, List.getElem_cons_succ, List.getElem_cons_zero, List.setIfInBounds_toArray, List.set_cons_zero, List.set_cons_succ]
    refine wpI_takeP (i := 9) (v := ?_) rfl (by kernel_rfl) (by kernel_rfl) (by kernel_rfl) (by first | exact fun _ _ _ h => h | exact fun _ _ _ h => HQ0.out _ _ _ _ h) (Or.inl ⟨by rfl, ?hy⟩) ?_
    case hy => (intro W; go_simp; (try with_reducible rfl))
    simp only [Act.put, List.getElem_toArray, List.getElem_cons_succ, List.getElem_cons_zero, List.setIfInBounds_toArray, List.set_cons_zero, List.set_cons_succ]
    refine wpI_takeP (i := 10) (v := ?_) rfl (by kernel_rfl) (by kernel_rfl) (by kernel_rfl) (by first | exact fun _ _ _ h => h | exact fun _ _ _ h => HQ0.out _ _ _ _ h) (Or.inl ⟨by rfl, ?hy⟩) ?_
    case hy => (intro W; go_simp; (try with_reducible rfl))
    simp only [Act.put, List.getElem_toArray, List.getElem_cons_succ, List.getElem_cons_zero, List.setIfInBounds_toArray, List.set_cons_zero, List.set_cons_succ]
    refine wpI_done (by kernel_rfl) ?_ _
    (try simp only [Act.put, List.getElem_toArray, List.getElem_cons_succ, List.getElem_cons_zero, List.setIfInBounds_toArray, List.set_cons_zero, List.set_cons_succ])
    go_wp2_with fail
    go_ret2
    exact ⟨rfl, hM.take_ 3⟩
end
end Go.Proofs.Ytmcdmgnpbhkdhaa
