/- The contract of AddrSizes' inner function. -/
import Derived.Test.YtlehknaiddidaaaDoorCovC
namespace Go.Proofs.YtlehknaiddidaaaDoor
open Go.RowKit
set_option linter.unusedVariables false

theorem sum_take (l : List (Nat × Nat)) (i : Nat) (r : Nat × Nat) (h : l[i]? = some r) : cvSum (l.take (i + 1)) = cvSum (l.take i) + 2 ^ r.2 := by
  unfold cvSum
  rw [List.take_add_one, h]
  simp
theorem sum_le (l : List (Nat × Nat)) (i : Nat) : cvSum (l.take i) ≤ cvSum l := by
  have h : cvSum l = cvSum (l.take i) + cvSum (l.drop i) := by
    unfold cvSum
    rw [← List.sum_append, ← List.map_append, List.take_append_drop]
  omega
theorem wrap_sum (a b c : Nat) (h : c = a + b) (h2 : c ≤ 4294967296) : wrap64 ((a : Int) + wrap64 (b : Int)) = (c : Int) := by
  unfold wrap64; omega
theorem siz_len0 {e f a : Nat} {l : List (Nat × Nat)} (h : Cv e f a l) (hl : f < a) : 0 < l.length := by
  cases h with
  | nil => omega
  | snoc h1 h2 => simp
set_option maxRecDepth 100000 in
set_option maxHeartbeats 1000000 in
theorem size_any (f t e : Nat) (w : World) (he : t + 1 = e) (h1 : f ≤ 4294967295) (h2 : t ≤ 4294967295) (h : f ≤ t) (hT : Tab w) :
    Calls Tryd.prog 5 #[.int .u32 (f : Int), .int .u32 (t : Int)] w fun r w' => r = .returned (.int .i64 ((e : Int) - (f : Int))) ∧ Below w.heap.size w w' := by
  have C1 := Lib.hid (fun W (h' : Tab W) => cover_any f t e he W (by omega) (by omega) h h')
  have HT := Lib.hid hT
  clear hT
  have hM := Mem.nil w
  go_enter Tryd.func5, Tryd.ntmps5
  go_upto_region 5 with         (first
          | (go_at_call 6; refine (C1.out _ (HT.out.kept hM.b)).mono ?_; rintro r W ⟨v, l, rfl, hN, hC⟩; replace hM := hM.join hN; simp only [List.nil_append] at hM; clear hN)
          | (refine at_box_ ?_; refine wpList_box_mem rfl _ _ rfl _ rfl hM ?_; clear hM; intro gb W hM; first | (simp only [List.nil_append] at hM) | (simp only [List.cons_append, List.nil_append] at hM))
          | (refine at_alloc_ (T := 28) ?_; refine wpList_alloc_mem rfl 28 rfl _ zv_Prefix _ rfl hM ?_; clear hM; intro gb W hM; first | (simp only [List.nil_append] at hM) | (simp only [List.cons_append, List.nil_append] at hM))
          | (refine at_load_ (T := 28) ?_; refine at_wanted_ (by go_simp) ?_; first | (refine wpList_loadg_mem (by go_simp) 28 _ rfl 0 _ _ _ hM rfl rfl _ Tryd.underlying28 rfl sz_Prefix ?_) | (refine wpList_loadg_mem (by go_simp) 28 _ rfl 1 _ _ _ hM rfl rfl _ Tryd.underlying28 rfl sz_Prefix ?_) | (refine wpList_loadg_mem (by go_simp) 28 _ rfl 2 _ _ _ hM rfl rfl _ Tryd.underlying28 rfl sz_Prefix ?_))
          | (refine at_store_ (T := 28) ?_; first | (refine wpList_store_mem rfl 28 _ _ rfl 0 _ _ _ _ hM rfl rfl rfl rfl sz_Prefix rfl ?_; clear hM; intro W hM; simp only [List.set_cons_zero] at hM) | (refine wpList_store_mem rfl 28 _ _ rfl 1 _ _ _ _ hM rfl rfl rfl rfl sz_Prefix rfl ?_; clear hM; intro W hM; simp only [List.set_cons_succ, List.set_cons_zero] at hM) | (refine wpList_store_mem rfl 28 _ _ rfl 2 _ _ _ _ hM rfl rfl rfl rfl sz_Prefix rfl ?_; clear hM; intro W hM; simp only [List.set_cons_succ, List.set_cons_zero] at hM))
          | (refine at_load_ ?_; refine at_wanted_ (by go_simp) ?_; first | (refine wpList_loadf_mem (by go_simp) _ _ rfl (by kernel_rfl) 0 _ _ _ _ _ hM rfl rfl rfl ?_) | (refine wpList_loadf_mem (by go_simp) _ _ rfl (by kernel_rfl) 1 _ _ _ _ _ hM rfl rfl rfl ?_) | (refine wpList_loadf_mem (by go_simp) _ _ rfl (by kernel_rfl) 2 _ _ _ _ _ hM rfl rfl rfl ?_))
          | (refine at_store_ ?_; first | (refine wpList_store1_mem rfl _ _ _ rfl 0 _ _ _ _ _ hM rfl rfl (by first | ((conv => lhs; whnf); done) | ((conv => lhs; whnf); rfl)) (by rfl) (by rfl) (by kernel_rfl) rfl ?_; clear hM; intro W hM; simp only [List.set_cons_succ, List.set_cons_zero] at hM) | (refine wpList_store1_mem rfl _ _ _ rfl 1 _ _ _ _ _ hM rfl rfl (by first | ((conv => lhs; whnf); done) | ((conv => lhs; whnf); rfl)) (by rfl) (by rfl) (by kernel_rfl) rfl ?_; clear hM; intro W hM; simp only [List.set_cons_succ, List.set_cons_zero] at hM) | (refine wpList_store1_mem rfl _ _ _ rfl 2 _ _ _ _ _ hM rfl rfl (by first | ((conv => lhs; whnf); done) | ((conv => lhs; whnf); rfl)) (by rfl) (by rfl) (by kernel_rfl) rfl ?_; clear hM; intro W hM; simp only [List.set_cons_succ, List.set_cons_zero] at hM)))
  have hfew := (hC.few (by omega)).1
  have hl0 := siz_len0 hC (by omega)
  have hsum := hC.sum
  obtain ⟨g, off, c, rfl, hW⟩ := (hM.row 0 rfl).pos hl0
  clear C1 hW
  obtain ⟨N, hN⟩ : ∃ N, l.length = N := ⟨_, rfl⟩
  simp only [hN] at hM hl0 hfew ⊢
  have HC := Lib.hid hC
  clear hC
  go_wp2_with fail
  go_loopw [7, 20] (fun vm vi wr => ∃ i : Nat, i ≤ N ∧ vi = .int .i64 (i : Int) ∧ vm = .int .i64 (cvSum (l.take i) : Int) ∧ MemX noE w wr [rowR 2 cvC (.slice (some ⟨g, off, none⟩) N c) l]) (fun vm vi _ => N - (intOf vi).toNat)
  case atStart => exact ⟨0, by omega, rfl, rfl, hM⟩
  case round =>
    obtain ⟨i, hi, rfl, rfl, hM⟩ := hrel
    by_cases hin : i < N
    · obtain ⟨⟨ra, rn⟩, hr⟩ : ∃ r, l[i]? = some r := ⟨l[i]'(by omega), List.getElem?_eq_getElem (by omega)⟩
      obtain ⟨hok, hle⟩ := HC.out.all _ (List.mem_of_getElem? hr)
      have hok : CvOk e ra rn := hok
      have hfit := hok.fit
      have hrn : rn ≤ 32 := by
        have h5 : 2 ^ rn ≤ 2 ^ 32 := by omega
        rcases Nat.lt_or_ge 32 rn with h6 | h6
        · have := Nat.pow_lt_pow_right (show 1 < 2 by omega) h6; omega
        · exact h6
      have hst := sum_take l i _ hr
      have hs1 := sum_le l i
      have hs2 := sum_le l (i + 1)
      simp only at hst
      generalize hcs : cvSum (l.take i) = si at *
      generalize hct : cvSum (l.take (i + 1)) = sj at *
      generalize cvSum l = sl at *
      have HCT := Lib.hid hct
      clear hcs hct hok hle
      have m1 : max ((32 : Int) - (rn : Int)) 0 = 32 - (rn : Int) := by omega
      have m2 : min ((32 : Int) - (rn : Int)) 32 = 32 - (rn : Int) := by omega
      generalize hzz : 2 ^ rn = z at *
      have hsh : ((2 : Int) ^ (32 - (32 - rn))) = (z : Int) := by rw [show 32 - (32 - rn) = rn by omega, show ((2 : Int) ^ rn) = ((2 ^ rn : Nat) : Int) by simp, hzz]
      have HSH := Lib.hid hsh
      clear hzz hsh
      go_upto_region 8 with         (first
          | (refine at_load_ (T := 28) ?_; refine wpList_load_row (f := cvC) rfl _ _ rfl 0 _ _ hM rfl hr rfl cvC_len _ Tryd.underlying28 rfl sz_Prefix ?_)
          | (refine at_box_ ?_; refine wpList_box_mem rfl _ _ rfl _ rfl hM ?_; clear hM; intro gb W hM; first | (simp only [List.nil_append] at hM) | (simp only [List.cons_append, List.nil_append] at hM))
          | (refine at_alloc_ (T := 28) ?_; refine wpList_alloc_mem rfl 28 rfl _ zv_Prefix _ rfl hM ?_; clear hM; intro gb W hM; first | (simp only [List.nil_append] at hM) | (simp only [List.cons_append, List.nil_append] at hM))
          | (refine at_load_ (T := 28) ?_; refine at_wanted_ (by go_simp) ?_; first | (refine wpList_loadg_mem (by go_simp) 28 _ rfl 0 _ _ _ hM rfl rfl _ Tryd.underlying28 rfl sz_Prefix ?_) | (refine wpList_loadg_mem (by go_simp) 28 _ rfl 1 _ _ _ hM rfl rfl _ Tryd.underlying28 rfl sz_Prefix ?_) | (refine wpList_loadg_mem (by go_simp) 28 _ rfl 2 _ _ _ hM rfl rfl _ Tryd.underlying28 rfl sz_Prefix ?_))
          | (refine at_store_ (T := 28) ?_; first | (refine wpList_store_mem rfl 28 _ _ rfl 0 _ _ _ _ hM rfl rfl rfl rfl sz_Prefix rfl ?_; clear hM; intro W hM; simp only [List.set_cons_zero] at hM) | (refine wpList_store_mem rfl 28 _ _ rfl 1 _ _ _ _ hM rfl rfl rfl rfl sz_Prefix rfl ?_; clear hM; intro W hM; simp only [List.set_cons_succ, List.set_cons_zero] at hM) | (refine wpList_store_mem rfl 28 _ _ rfl 2 _ _ _ _ hM rfl rfl rfl rfl sz_Prefix rfl ?_; clear hM; intro W hM; simp only [List.set_cons_succ, List.set_cons_zero] at hM)))
      have hcp := hM.cells 1 rfl
      simp only [cvC] at hcp
      go_wp2_with fail
      go_roundw
      case rel => exact ⟨i + 1, by omega, by go_num, congrArg (Value.int .i64) (by rw [HSH.out, HCT.out]; exact wrap_sum si z sj hst (by omega)), hM.take_ 1⟩
      case measure => simp [intOf]; omega
    · obtain rfl : i = N := by omega
      rw [List.take_of_length_le (by omega)] at *
      have hst : ((cvSum l : Nat) : Int) = (e : Int) - (f : Int) := by omega
      go_wp2_with fail
      go_ret
      refine ⟨?_, hM.b⟩
      show Ending.returned (Value.int .i64 ((cvSum l : Nat) : Int)) = _
      rw [hst]
end Go.Proofs.YtlehknaiddidaaaDoor
