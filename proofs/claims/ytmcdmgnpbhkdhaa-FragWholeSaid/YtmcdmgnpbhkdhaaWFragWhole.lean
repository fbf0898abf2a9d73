/- The walk of FragWhole: it returns true. -/
import Derived.Test.YtmcdmgnpbhkdhaaFgE
import Derived.Test.YtmcdmgnpbhkdhaaRest
import Derived.Test.YtmcdmgnpbhkdhaaKit
import Derived.Test.YtmcdmgnpbhkdhaaDat
import Derived.Deep.CutBlock
namespace Go.Proofs.Ytmcdmgnpbhkdhaa
open Go.RowKit Go.Lib
set_option linter.unusedVariables false
set_option linter.unusedSimpArgs false

theorem whole_one {cs : List Value} (h : okAll [.int .i64] cs) : ∃ n : Int, cs = [.int .i64 n] ∧ -9223372036854775808 ≤ n ∧ n ≤ 9223372036854775807 := by
  have hl := okAll_len h
  obtain ⟨v, hv, n, rfl, h1, h2⟩ := okAll_at 0 h rfl
  match cs, hl, hv with
  | [x], _, hv =>
    have : x = .int .i64 n := by simpa using hv
    exact ⟨n, by rw [this], h1, h2⟩
set_option maxRecDepth 100000 in
set_option maxHeartbeats 8000000 in
theorem fragWhole_any (p0 q0 : Pk) (mtu : Int) (A3 : Option Addr) (n3 c3 : Nat) (css3 : Nat → List Value) (w : World) (okp : PkOk p0) (okq : PkOk q0) (hm : I64 mtu) (hR3 : Rows_ w A3 n3 [.int .i64] css3) (hl3 : n3 ≤ 140737488351232) :
    Calls Try.prog 10 #[.agg (pkC p0).toArray, .agg (pkC q0).toArray, .int .i64 mtu, .slice A3 n3 c3] w fun e w' => e = .returned (.bool true) ∧ Below w.heap.size w w' := by
  obtain ⟨hm1, hm2⟩ := hm
  have okp2 : PkOk { p0 with mf := false, off := 0 } := ⟨okp.s, okp.d, okp.pr, okp.tl, okp.id, (by decide : I64 0), okp.b⟩
  have okq2 : PkOk { q0 with s := p0.s, d := p0.d, pr := p0.pr, id := bXor p0.id 1, mf := false, off := 0 } := ⟨okp.s, okp.d, okp.pr, okq.tl, bXor_i64 _ _, (by decide : I64 0), okq.b⟩
  have HNE := Lib.hid (bXor_ne p0.id)
  have OKP := Lib.hid okp2
  have OKQ := Lib.hid okq2
  obtain ⟨ps, pd, ppr, ptl, pid, pdf, pmf, poff, pb⟩ := p0
  obtain ⟨qs, qd, qpr, qtl, qid, qdf, qmf, qoff, qb⟩ := q0
  have hM := Mem.nil w
  have hbp := okp.b
  have hbq := okq.b
  clear okp okq okp2 okq2
  go_enter Try.func10, Try.ntmps10
  go_upto_region 1 with (first | go_skip | ((with_reducible refine at_box_ ?_); refine wpList_box_mem rfl _ _ rfl _ rfl hM ?_; clear hM; intro gb W hM; (first | (simp only [List.nil_append] at hM) | (simp only [List.cons_append, List.nil_append] at hM)); first | (have _u := gp; obtain ⟨gq, hgq⟩ : ∃ x, x = gb := ⟨_, rfl⟩; subst hgq; clear _u) | (obtain ⟨gp, hgp⟩ : ∃ x, x = gb := ⟨_, rfl⟩; subst hgp)))
  go_upto_region 2 with         (first
          | go_skip
          | ((with_reducible refine at_box_ ?_); refine wpList_box_mem rfl _ _ rfl _ rfl hM ?_; clear hM; intro gb W hM; first | (simp only [List.nil_append] at hM) | (simp only [List.cons_append, List.nil_append] at hM))
          | ((with_reducible refine at_alloc_ (T := 40) ?_); refine wpList_alloc_mem rfl 40 rfl _ zv_Packet _ rfl hM ?_; clear hM; intro gb W hM; first | (simp only [List.nil_append] at hM) | (simp only [List.cons_append, List.nil_append] at hM))
          | ((with_reducible refine at_load_ (T := 40) ?_); refine at_wanted_ (by rfl) ?_; first | (refine wpList_loadg_mem (by go_simp) 40 _ rfl 0 _ _ _ hM rfl rfl _ Try.underlying40 rfl sz_Packet ?_) | (refine wpList_loadg_mem (by go_simp) 40 _ rfl 1 _ _ _ hM rfl rfl _ Try.underlying40 rfl sz_Packet ?_) | (refine wpList_loadg_mem (by go_simp) 40 _ rfl 2 _ _ _ hM rfl rfl _ Try.underlying40 rfl sz_Packet ?_))
          | ((with_reducible refine at_store_ (T := 40) ?_); first | (refine wpList_store_mem rfl 40 _ _ rfl 0 _ _ _ _ hM rfl rfl rfl rfl sz_Packet rfl ?_; clear hM; intro W hM; simp only [List.set_cons_zero] at hM) | (refine wpList_store_mem rfl 40 _ _ rfl 1 _ _ _ _ hM rfl rfl rfl rfl sz_Packet rfl ?_; clear hM; intro W hM; simp only [List.set_cons_succ, List.set_cons_zero] at hM) | (refine wpList_store_mem rfl 40 _ _ rfl 2 _ _ _ _ hM rfl rfl rfl rfl sz_Packet rfl ?_; clear hM; intro W hM; simp only [List.set_cons_succ, List.set_cons_zero] at hM))
          | ((with_reducible refine at_load_ ?_); refine at_wanted_ (by rfl) ?_; first | (refine wpList_loadf_mem (by go_simp) _ _ rfl (by kernel_rfl) 0 _ _ _ _ _ hM rfl rfl (by first | rfl | assumption) ?_) | (refine wpList_loadf_mem (by go_simp) _ _ rfl (by kernel_rfl) 1 _ _ _ _ _ hM rfl rfl (by first | rfl | assumption) ?_) | (refine wpList_loadf_mem (by go_simp) _ _ rfl (by kernel_rfl) 2 _ _ _ _ _ hM rfl rfl (by first | rfl | assumption) ?_))
          | ((with_reducible refine at_store_ ?_); first | (refine wpList_store1_mem rfl _ _ _ rfl 0 _ _ _ _ _ hM rfl rfl (by first | ((conv => lhs; whnf); done) | ((conv => lhs; whnf); rfl)) (by rfl) (by rfl) (by kernel_rfl) rfl ?_; clear hM; intro W hM; simp only [pkC, List.set_cons_succ, List.set_cons_zero] at hM) | (refine wpList_store1_mem rfl _ _ _ rfl 1 _ _ _ _ _ hM rfl rfl (by first | ((conv => lhs; whnf); done) | ((conv => lhs; whnf); rfl)) (by rfl) (by rfl) (by kernel_rfl) rfl ?_; clear hM; intro W hM; simp only [pkC, List.set_cons_succ, List.set_cons_zero] at hM) | (refine wpList_store1_mem rfl _ _ _ rfl 2 _ _ _ _ _ hM rfl rfl (by first | ((conv => lhs; whnf); done) | ((conv => lhs; whnf); rfl)) (by rfl) (by rfl) (by kernel_rfl) rfl ?_; clear hM; intro W hM; simp only [pkC, List.set_cons_succ, List.set_cons_zero] at hM)))
  refine wp_region_M [0] [16] hM (by kernel_rfl) ?_
  clear hM
  intro wo hM
  refine wpI_takeP (i := 0) (v := ?_) rfl (by kernel_rfl) (by kernel_rfl) (by kernel_rfl) (by first | exact fun _ _ _ h => h | exact fun _ _ _ h => HQ0.out _ _ _ _ _ h) (Or.inl ⟨by rfl, ?hy⟩) ?_
  case hy => (intro W; go_simp; (try with_reducible rfl))
  simp only [Act.put, List.getElem_toArray, List.getElem_cons_succ, List.getElem_cons_zero, List.setIfInBounds_toArray, List.set_cons_zero, List.set_cons_succ]
  refine wpI_takeT (i := 1) (v := ?_) rfl (by kernel_rfl) (by kernel_rfl) (by kernel_rfl) (by kernel_rfl) (by first | exact fun _ _ _ h => h | exact fun _ _ _ h => HQ0.out _ _ _ _ _ h) ⟨fun r hr => hM.get 0 hr, trivial⟩ (Or.inl ⟨by rfl, ?hy⟩) ?_
  case hy => (rintro W ⟨i0, -⟩; have c0 := (show At W _ _ _ from i0 _ rfl).cell; (try simp only [pkC] at c0); go_simp; (try with_reducible rfl))
  simp only [Act.put, List.getElem_toArray, List.getElem_cons_succ, List.getElem_cons_zero, List.setIfInBounds_toArray, List.set_cons_zero, List.set_cons_succ]
  refine wpI_takeP (i := 2) (v := ?_) rfl (by kernel_rfl) (by kernel_rfl) (by kernel_rfl) (by first | exact fun _ _ _ h => h | exact fun _ _ _ h => HQ0.out _ _ _ _ _ h) (Or.inl ⟨by rfl, ?hy⟩) ?_
  case hy => (intro W; go_simp; (try with_reducible rfl))
  simp only [Act.put, List.getElem_toArray, List.getElem_cons_succ, List.getElem_cons_zero, List.setIfInBounds_toArray, List.set_cons_zero, List.set_cons_succ]
  refine wpI_takeT (i := 3) (v := ?_) rfl (by kernel_rfl) (by kernel_rfl) (by kernel_rfl) (by kernel_rfl) (by first | exact fun _ _ _ h => h | exact fun _ _ _ h => HQ0.out _ _ _ _ _ h) ⟨fun r hr => hM.get 0 hr, trivial⟩ (Or.inl ⟨by rfl, ?hy⟩) ?_
  case hy => (rintro W ⟨i0, -⟩; have c0 := (show At W _ _ _ from i0 _ rfl).cell; (try simp only [pkC] at c0); go_simp; (try with_reducible rfl))
  simp only [Act.put, List.getElem_toArray, List.getElem_cons_succ, List.getElem_cons_zero, List.setIfInBounds_toArray, List.set_cons_zero, List.set_cons_succ]
  refine wpI_takeP (i := 4) (v := ?_) rfl (by kernel_rfl) (by kernel_rfl) (by kernel_rfl) (by first | exact fun _ _ _ h => h | exact fun _ _ _ h => HQ0.out _ _ _ _ _ h) (Or.inl ⟨by rfl, ?hy⟩) ?_
  case hy => (intro W; go_simp; (try with_reducible rfl))
  simp only [Act.put, List.getElem_toArray, List.getElem_cons_succ, List.getElem_cons_zero, List.setIfInBounds_toArray, List.set_cons_zero, List.set_cons_succ]
  refine wpI_takeT (i := 5) (v := ?_) rfl (by kernel_rfl) (by kernel_rfl) (by kernel_rfl) (by kernel_rfl) (by first | exact fun _ _ _ h => h | exact fun _ _ _ h => HQ0.out _ _ _ _ _ h) ⟨fun r hr => hM.get 0 hr, trivial⟩ (Or.inl ⟨by rfl, ?hy⟩) ?_
  case hy => (rintro W ⟨i0, -⟩; have c0 := (show At W _ _ _ from i0 _ rfl).cell; (try simp only [pkC] at c0); go_simp; (try with_reducible rfl))
  simp only [Act.put, List.getElem_toArray, List.getElem_cons_succ, List.getElem_cons_zero, List.setIfInBounds_toArray, List.set_cons_zero, List.set_cons_succ]
  refine wpI_takeP (i := 6) (v := ?_) rfl (by kernel_rfl) (by kernel_rfl) (by kernel_rfl) (by first | exact fun _ _ _ h => h | exact fun _ _ _ h => HQ0.out _ _ _ _ _ h) (Or.inl ⟨by rfl, ?hy⟩) ?_
  case hy => (intro W; go_simp; (try with_reducible rfl))
  simp only [Act.put, List.getElem_toArray, List.getElem_cons_succ, List.getElem_cons_zero, List.setIfInBounds_toArray, List.set_cons_zero, List.set_cons_succ]
  refine wpI_takeT (i := 7) (v := ?_) rfl (by kernel_rfl) (by kernel_rfl) (by kernel_rfl) (by kernel_rfl) (by first | exact fun _ _ _ h => h | exact fun _ _ _ h => HQ0.out _ _ _ _ _ h) ⟨fun r hr => hM.get 0 hr, trivial⟩ (Or.inl ⟨by rfl, ?hy⟩) ?_
  case hy => (rintro W ⟨i0, -⟩; have c0 := (show At W _ _ _ from i0 _ rfl).cell; (try simp only [pkC] at c0); go_simp; (try with_reducible rfl))
  simp only [Act.put, List.getElem_toArray, List.getElem_cons_succ, List.getElem_cons_zero, List.setIfInBounds_toArray, List.set_cons_zero, List.set_cons_succ]
  refine wpI_takeP (i := 8) rfl (by kernel_rfl) (by kernel_rfl) (by kernel_rfl) (by first | exact fun _ _ _ h => h | exact fun _ _ _ h => HQ0.out _ _ _ _ _ h) ((.inl ⟨by rfl, fun w => exec_xor _ _ _ _ rfl _ _ rfl rfl w⟩)) ?_
  simp only [Act.put, List.getElem_toArray, List.getElem_cons_succ, List.getElem_cons_zero, List.setIfInBounds_toArray, List.set_cons_zero, List.set_cons_succ]
  (try simp only [Bool.not_true, Bool.not_false])
  refine wpI_takeP (i := 9) (v := ?_) rfl (by kernel_rfl) (by kernel_rfl) (by kernel_rfl) (by first | exact fun _ _ _ h => h | exact fun _ _ _ h => HQ0.out _ _ _ _ _ h) (Or.inl ⟨by rfl, ?hy⟩) ?_
  case hy => (intro W; go_simp; (try with_reducible rfl))
  simp only [Act.put, List.getElem_toArray, List.getElem_cons_succ, List.getElem_cons_zero, List.setIfInBounds_toArray, List.set_cons_zero, List.set_cons_succ]
  refine wpI_one (i := 10) rfl (by kernel_rfl) ?_
  (try simp only [Act.put, List.getElem_toArray, List.getElem_cons_succ, List.getElem_cons_zero, List.setIfInBounds_toArray, List.set_cons_zero, List.set_cons_succ])
  go_wp2_with (first
      | go_skip
      | ((with_reducible refine at_box_ ?_); refine wpList_box_mem rfl _ _ rfl _ rfl hM ?_; clear hM; intro gb W hM; first | (simp only [List.nil_append] at hM) | (simp only [List.cons_append, List.nil_append] at hM))
      | ((with_reducible refine at_load_ ?_); refine at_wanted_ (by rfl) ?_; first | (refine wpList_loadf_mem (by go_simp) _ _ rfl (by kernel_rfl) 0 _ _ _ _ _ hM rfl rfl (by first | rfl | assumption) ?_) | (refine wpList_loadf_mem (by go_simp) _ _ rfl (by kernel_rfl) 1 _ _ _ _ _ hM rfl rfl (by first | rfl | assumption) ?_) | (refine wpList_loadf_mem (by go_simp) _ _ rfl (by kernel_rfl) 2 _ _ _ _ _ hM rfl rfl (by first | rfl | assumption) ?_))
      | ((with_reducible refine at_store_ ?_); first | (refine wpList_store1_mem rfl _ _ _ rfl 0 _ _ _ _ _ hM rfl rfl (by first | ((conv => lhs; whnf); done) | ((conv => lhs; whnf); rfl)) (by rfl) (by rfl) (by kernel_rfl) rfl ?_; clear hM; intro W hM; simp only [pkC, List.set_cons_succ, List.set_cons_zero] at hM) | (refine wpList_store1_mem rfl _ _ _ rfl 1 _ _ _ _ _ hM rfl rfl (by first | ((conv => lhs; whnf); done) | ((conv => lhs; whnf); rfl)) (by rfl) (by rfl) (by kernel_rfl) rfl ?_; clear hM; intro W hM; simp only [pkC, List.set_cons_succ, List.set_cons_zero] at hM) | (refine wpList_store1_mem rfl _ _ _ rfl 2 _ _ _ _ _ hM rfl rfl (by first | ((conv => lhs; whnf); done) | ((conv => lhs; whnf); rfl)) (by rfl) (by rfl) (by kernel_rfl) rfl ?_; clear hM; intro W hM; simp only [pkC, List.set_cons_succ, List.set_cons_zero] at hM)))
  refine contI_normal ⟨fun r hr => hM.get 0 hr, trivial⟩ ?_
  (try simp only [Act.put, List.getElem_toArray, List.getElem_cons_succ, List.getElem_cons_zero, List.setIfInBounds_toArray, List.set_cons_zero, List.set_cons_succ])
  refine wpI_takeP (i := 11) (v := ?_) rfl (by kernel_rfl) (by kernel_rfl) (by kernel_rfl) (by first | exact fun _ _ _ h => h | exact fun _ _ _ h => HQ0.out _ _ _ _ _ h) (Or.inl ⟨by rfl, ?hy⟩) ?_
  case hy => (intro W; go_simp; (try with_reducible rfl))
  simp only [Act.put, List.getElem_toArray, List.getElem_cons_succ, List.getElem_cons_zero, List.setIfInBounds_toArray, List.set_cons_zero, List.set_cons_succ]
  refine wpI_one (i := 12) rfl (by kernel_rfl) ?_
  (try simp only [Act.put, List.getElem_toArray, List.getElem_cons_succ, List.getElem_cons_zero, List.setIfInBounds_toArray, List.set_cons_zero, List.set_cons_succ])
  go_wp2_with (first
      | go_skip
      | ((with_reducible refine at_box_ ?_); refine wpList_box_mem rfl _ _ rfl _ rfl hM ?_; clear hM; intro gb W hM; first | (simp only [List.nil_append] at hM) | (simp only [List.cons_append, List.nil_append] at hM))
      | ((with_reducible refine at_load_ ?_); refine at_wanted_ (by rfl) ?_; first | (refine wpList_loadf_mem (by go_simp) _ _ rfl (by kernel_rfl) 0 _ _ _ _ _ hM rfl rfl (by first | rfl | assumption) ?_) | (refine wpList_loadf_mem (by go_simp) _ _ rfl (by kernel_rfl) 1 _ _ _ _ _ hM rfl rfl (by first | rfl | assumption) ?_) | (refine wpList_loadf_mem (by go_simp) _ _ rfl (by kernel_rfl) 2 _ _ _ _ _ hM rfl rfl (by first | rfl | assumption) ?_))
      | ((with_reducible refine at_store_ ?_); first | (refine wpList_store1_mem rfl _ _ _ rfl 0 _ _ _ _ _ hM rfl rfl (by first | ((conv => lhs; whnf); done) | ((conv => lhs; whnf); rfl)) (by rfl) (by rfl) (by kernel_rfl) rfl ?_; clear hM; intro W hM; simp only [pkC, List.set_cons_succ, List.set_cons_zero] at hM) | (refine wpList_store1_mem rfl _ _ _ rfl 1 _ _ _ _ _ hM rfl rfl (by first | ((conv => lhs; whnf); done) | ((conv => lhs; whnf); rfl)) (by rfl) (by rfl) (by kernel_rfl) rfl ?_; clear hM; intro W hM; simp only [pkC, List.set_cons_succ, List.set_cons_zero] at hM) | (refine wpList_store1_mem rfl _ _ _ rfl 2 _ _ _ _ _ hM rfl rfl (by first | ((conv => lhs; whnf); done) | ((conv => lhs; whnf); rfl)) (by rfl) (by rfl) (by kernel_rfl) rfl ?_; clear hM; intro W hM; simp only [pkC, List.set_cons_succ, List.set_cons_zero] at hM)))
  refine contI_normal ⟨fun r hr => hM.get 0 hr, trivial⟩ ?_
  (try simp only [Act.put, List.getElem_toArray, List.getElem_cons_succ, List.getElem_cons_zero, List.setIfInBounds_toArray, List.set_cons_zero, List.set_cons_succ])
  refine wpI_takeP (i := 13) (v := ?_) rfl (by kernel_rfl) (by kernel_rfl) (by kernel_rfl) (by first | exact fun _ _ _ h => h | exact fun _ _ _ h => HQ0.out _ _ _ _ _ h) (Or.inl ⟨by rfl, ?hy⟩) ?_
  case hy => (intro W; go_simp; (try with_reducible rfl))
  simp only [Act.put, List.getElem_toArray, List.getElem_cons_succ, List.getElem_cons_zero, List.setIfInBounds_toArray, List.set_cons_zero, List.set_cons_succ]
  refine wpI_one (i := 14) rfl (by kernel_rfl) ?_
  (try simp only [Act.put, List.getElem_toArray, List.getElem_cons_succ, List.getElem_cons_zero, List.setIfInBounds_toArray, List.set_cons_zero, List.set_cons_succ])
  go_wp2_with (first
      | go_skip
      | ((with_reducible refine at_box_ ?_); refine wpList_box_mem rfl _ _ rfl _ rfl hM ?_; clear hM; intro gb W hM; first | (simp only [List.nil_append] at hM) | (simp only [List.cons_append, List.nil_append] at hM))
      | ((with_reducible refine at_load_ ?_); refine at_wanted_ (by rfl) ?_; first | (refine wpList_loadf_mem (by go_simp) _ _ rfl (by kernel_rfl) 0 _ _ _ _ _ hM rfl rfl (by first | rfl | assumption) ?_) | (refine wpList_loadf_mem (by go_simp) _ _ rfl (by kernel_rfl) 1 _ _ _ _ _ hM rfl rfl (by first | rfl | assumption) ?_) | (refine wpList_loadf_mem (by go_simp) _ _ rfl (by kernel_rfl) 2 _ _ _ _ _ hM rfl rfl (by first | rfl | assumption) ?_))
      | ((with_reducible refine at_store_ ?_); first | (refine wpList_store1_mem rfl _ _ _ rfl 0 _ _ _ _ _ hM rfl rfl (by first | ((conv => lhs; whnf); done) | ((conv => lhs; whnf); rfl)) (by rfl) (by rfl) (by kernel_rfl) rfl ?_; clear hM; intro W hM; simp only [pkC, List.set_cons_succ, List.set_cons_zero] at hM) | (refine wpList_store1_mem rfl _ _ _ rfl 1 _ _ _ _ _ hM rfl rfl (by first | ((conv => lhs; whnf); done) | ((conv => lhs; whnf); rfl)) (by rfl) (by rfl) (by kernel_rfl) rfl ?_; clear hM; intro W hM; simp only [pkC, List.set_cons_succ, List.set_cons_zero] at hM) | (refine wpList_store1_mem rfl _ _ _ rfl 2 _ _ _ _ _ hM rfl rfl (by first | ((conv => lhs; whnf); done) | ((conv => lhs; whnf); rfl)) (by rfl) (by rfl) (by kernel_rfl) rfl ?_; clear hM; intro W hM; simp only [pkC, List.set_cons_succ, List.set_cons_zero] at hM)))
  refine contI_normal ⟨fun r hr => hM.get 0 hr, trivial⟩ ?_
  (try simp only [Act.put, List.getElem_toArray, List.getElem_cons_succ, List.getElem_cons_zero, List.setIfInBounds_toArray, List.set_cons_zero, List.set_cons_succ])
  refine wpI_takeP (i := 15) (v := ?_) rfl (by kernel_rfl) (by kernel_rfl) (by kernel_rfl) (by first | exact fun _ _ _ h => h | exact fun _ _ _ h => HQ0.out _ _ _ _ _ h) (Or.inl ⟨by rfl, ?hy⟩) ?_
  case hy => (intro W; go_simp; (try with_reducible rfl))
  simp only [Act.put, List.getElem_toArray, List.getElem_cons_succ, List.getElem_cons_zero, List.setIfInBounds_toArray, List.set_cons_zero, List.set_cons_succ]
  refine wpI_one (i := 16) rfl (by kernel_rfl) ?_
  (try simp only [Act.put, List.getElem_toArray, List.getElem_cons_succ, List.getElem_cons_zero, List.setIfInBounds_toArray, List.set_cons_zero, List.set_cons_succ])
  go_wp2_with (first
      | go_skip
      | ((with_reducible refine at_box_ ?_); refine wpList_box_mem rfl _ _ rfl _ rfl hM ?_; clear hM; intro gb W hM; first | (simp only [List.nil_append] at hM) | (simp only [List.cons_append, List.nil_append] at hM))
      | ((with_reducible refine at_load_ ?_); refine at_wanted_ (by rfl) ?_; first | (refine wpList_loadf_mem (by go_simp) _ _ rfl (by kernel_rfl) 0 _ _ _ _ _ hM rfl rfl (by first | rfl | assumption) ?_) | (refine wpList_loadf_mem (by go_simp) _ _ rfl (by kernel_rfl) 1 _ _ _ _ _ hM rfl rfl (by first | rfl | assumption) ?_) | (refine wpList_loadf_mem (by go_simp) _ _ rfl (by kernel_rfl) 2 _ _ _ _ _ hM rfl rfl (by first | rfl | assumption) ?_))
      | ((with_reducible refine at_store_ ?_); first | (refine wpList_store1_mem rfl _ _ _ rfl 0 _ _ _ _ _ hM rfl rfl (by first | ((conv => lhs; whnf); done) | ((conv => lhs; whnf); rfl)) (by rfl) (by rfl) (by kernel_rfl) rfl ?_; clear hM; intro W hM; simp only [pkC, List.set_cons_succ, List.set_cons_zero] at hM) | (refine wpList_store1_mem rfl _ _ _ rfl 1 _ _ _ _ _ hM rfl rfl (by first | ((conv => lhs; whnf); done) | ((conv => lhs; whnf); rfl)) (by rfl) (by rfl) (by kernel_rfl) rfl ?_; clear hM; intro W hM; simp only [pkC, List.set_cons_succ, List.set_cons_zero] at hM) | (refine wpList_store1_mem rfl _ _ _ rfl 2 _ _ _ _ _ hM rfl rfl (by first | ((conv => lhs; whnf); done) | ((conv => lhs; whnf); rfl)) (by rfl) (by rfl) (by kernel_rfl) rfl ?_; clear hM; intro W hM; simp only [pkC, List.set_cons_succ, List.set_cons_zero] at hM)))
  refine contI_late (by decide) ?_
  (try simp only [Act.put, List.getElem_toArray, List.getElem_cons_succ, List.getElem_cons_zero, List.setIfInBounds_toArray, List.set_cons_zero, List.set_cons_succ])
  refine wpI_done (by kernel_rfl) ?_ _
  (try simp only [Act.put, List.getElem_toArray, List.getElem_cons_succ, List.getElem_cons_zero, List.setIfInBounds_toArray, List.set_cons_zero, List.set_cons_succ])
  go_upto_region 3 with (fail)
  obtain ⟨p, hp⟩ : ∃ z : Pk, z = ⟨ps, pd, ppr, ptl, pid, pdf, false, 0, pb⟩ := ⟨_, rfl⟩
  obtain ⟨q, hq⟩ : ∃ z : Pk, z = ⟨ps, pd, ppr, qtl, bXor pid 1, qdf, false, 0, qb⟩ := ⟨_, rfl⟩
  have OKP2 := Lib.hid (show PkOk p from by rw [hp]; exact OKP.out)
  have OKQ2 := Lib.hid (show PkOk q from by rw [hq]; exact OKQ.out)
  have HKP := Lib.hid (show keyP p ≠ keyP q from by rw [hp, hq]; intro h; exact HNE.out (congrArg KNm.id h).symm)
  replace hM : Mem w W [atR gp 40 (pkC p), atR gq 40 (pkC q)] := by rw [hp, hq]; exact hM
  clear hp hq HNE
  have H1 := Lib.hid (fun W => split_any p mtu W OKP2.out ⟨hm1, hm2⟩)
  have H2 := Lib.hid (fun W => split_any q mtu W OKQ2.out ⟨hm1, hm2⟩)
  go_upto_region 4 with (first
    | go_skip
    | ((with_reducible refine at_load_ (T := 40) ?_); refine wpList_loadg_mem (by go_simp) 40 _ rfl 0 _ _ _ hM rfl rfl _ Try.underlying40 rfl sz_Packet ?_)
    | (go_at_call 38; refine (H1.out _).mono ?_; rintro e W ⟨va, a, Ea, rfl, hN, hSa⟩; replace hM := hM.join hN; simp only [List.cons_append, List.nil_append] at hM; clear hN; obtain ⟨Aa, ca, rfl⟩ := (hM.row 2 rfl).form; obtain ⟨la, hla⟩ : ∃ z, z = a.length := ⟨_, rfl⟩; rw [← hla] at hM ⊢; have HLA := Lib.hid hla; clear hla; dsimp only)
    | ((with_reducible refine at_alloc_ (T := 81) ?_); refine wpList_alloc_mem rfl 81 rfl (.slice none 0 0) (fun _ => by kernel_rfl) [.slice none 0 0] rfl hM ?_; clear hM; intro ga W hM; simp only [List.cons_append, List.nil_append] at hM)
    | ((with_reducible refine at_store_ (T := 81) ?_); refine wpList_store1_mem rfl _ _ _ rfl 3 _ _ _ _ _ hM rfl rfl (by first | ((conv => lhs; whnf); done) | ((conv => lhs; whnf); rfl)) (by rfl) (by rfl) (by kernel_rfl) rfl ?_; clear hM; intro W hM; simp only [List.set_cons_succ, List.set_cons_zero] at hM))
  go_upto_region 5 with (first
    | go_skip
    | ((with_reducible refine at_load_ (T := 40) ?_); refine wpList_loadg_mem (by go_simp) 40 _ rfl 1 _ _ _ hM rfl rfl _ Try.underlying40 rfl sz_Packet ?_)
    | (go_at_call 38; refine (H2.out _).mono ?_; rintro e W ⟨vb, b, Eb, rfl, hN, hSb⟩; replace hM := hM.join hN; simp only [List.cons_append, List.nil_append] at hM; clear hN; obtain ⟨Ab, cb, rfl⟩ := (hM.row 4 rfl).form; obtain ⟨lb, hlb⟩ : ∃ z, z = b.length := ⟨_, rfl⟩; rw [← hlb] at hM ⊢; have HLB := Lib.hid hlb; clear hlb; dsimp only))
  go_upto_region 6 with (first
    | go_skip
    | (go_at_call 34; refine (newfrag_any _).mono ?_; rintro e W ⟨g, gm, rfl, hN⟩; replace hM := (hM.new_ hN).perm List.perm_append_comm; simp only [List.cons_append, List.nil_append] at hM; clear hN; dsimp only)
    | ((with_reducible refine at_alloc_ (T := 75) ?_); refine wpList_alloc_mem rfl 75 rfl (.pointer none) (fun _ => by kernel_rfl) [.pointer none] rfl hM ?_; clear hM; intro gt W hM; simp only [List.cons_append, List.nil_append] at hM)
    | ((with_reducible refine at_store_ (T := 75) ?_); refine wpList_store1_mem rfl _ _ _ rfl 7 _ _ _ _ _ hM rfl rfl (by first | ((conv => lhs; whnf); done) | ((conv => lhs; whnf); rfl)) (by rfl) (by rfl) (by kernel_rfl) rfl ?_; clear hM; intro W hM; simp only [List.set_cons_succ, List.set_cons_zero] at hM))
  replace hM : Mem w W ([atR gp 40 (pkC p), atR gq 40 (pkC q), rowR 9 pkC (.slice Aa la ca) a, atR ga 81 [.slice Aa la ca], rowR 9 pkC (.slice Ab lb cb) b, atR gt 75 [.pointer (some ⟨g, 0, none⟩)]] ++ fgL g gm []) := hM.pick [0, 1, 2, 3, 4, 7, 5, 6] (by decide) (by intro j hj; have h8 : j < 8 := (by simp at hj; omega); exact h8)
  go_upto_region 8 with (first
    | go_skip
    | ((with_reducible refine at_load_ ?_); refine at_wanted_ (by rfl) ?_; first | (refine wpList_loadf_mem (by go_simp) _ _ rfl (by kernel_rfl) 5 _ _ _ _ _ hM rfl rfl rfl ?_))
    | (go_at_call 35; refine (Tick_neg g gm [] (-1) _ (fg_hand [_, _, _, _, _, _] hM) (by decide)).mono ?_; rintro e W ⟨rfl, hM6⟩; replace hM := fg_back [_, _, _, _, _, _] hM hM6; clear hM6; dsimp only))
  replace hM : Mem w W ([atR gp 40 (pkC p), atR gq 40 (pkC q), rowR 9 pkC (.slice Aa la ca) a, atR ga 81 [.slice Aa la ca], rowR 9 pkC (.slice Ab lb cb) b, atR gt 75 [.pointer (some ⟨g, 0, none⟩)]] ++ fgL g gm []) := hM
  by_cases hEa : Ea = 0
  rotate_left
  · have t1 : ((Ea : Int) != 0) = true := by simpa using hEa
    have hl0 : la = 0 := by
      rw [HLA.out]
      cases hSa with
      | no E h => rfl
      | one h1 => exact absurd rfl hEa
      | many m n h1 => exact absurd rfl hEa
    subst hl0
    clear hEa hSa hSb
    go_wp2_with (first | go_skip | ((with_reducible refine at_load_ ?_); refine at_wanted_ (by rfl) ?_; first | (refine wpList_loadf_mem (by go_simp) _ _ rfl (by kernel_rfl) 3 _ _ _ _ _ hM rfl rfl rfl ?_)))
    go_ret
    exact ⟨rfl, hM.b⟩
  subst hEa
  by_cases hEb : Eb = 0
  rotate_left
  · have t1 : ((Eb : Int) != 0) = true := by simpa using hEb
    have hl0 : lb = 0 := by
      rw [HLB.out]
      cases hSb with
      | no E h => rfl
      | one h1 => exact absurd rfl hEb
      | many m n h1 => exact absurd rfl hEb
    subst hl0
    have FPA := Lib.hid (fpk_of OKP2.out hSa)
    have hla1 := FPA.out.pos
    rw [← HLA.out] at hla1
    have t2 : ((la : Int) == 0) = false := by simp; omega
    clear hEb hSa hSb
    go_wp2_with (first | go_skip | ((with_reducible refine at_load_ ?_); refine at_wanted_ (by rfl) ?_; first | (refine wpList_loadf_mem (by go_simp) _ _ rfl (by kernel_rfl) 3 _ _ _ _ _ hM rfl rfl rfl ?_)))
    go_ret
    exact ⟨rfl, hM.b⟩
  subst hEb
  have FPA := Lib.hid (fpk_of OKP2.out hSa)
  have FPB := Lib.hid (fpk_of OKQ2.out hSb)
  have hla1 := FPA.out.pos
  have hla2 := FPA.out.few
  have hlb1 := FPB.out.pos
  have hlb2 := FPB.out.few
  rw [← HLA.out] at hla1 hla2
  rw [← HLB.out] at hlb1 hlb2
  clear hSa hSb H1 H2
  have HCP := Lib.hid (fun (W : World) (h : Win W 0 9 (.slice Aa la ca) a.length (a.flatMap pkC)) => copy_pk Aa la ca a W HLA.out h FPA.out.pos (by have := FPA.out.few; omega))
  have t1 : ((la : Int) == 0) = false := by simp; omega
  have t2 : ((lb : Int) == 0) = false := by simp; omega
  obtain ⟨N, hN⟩ : ∃ z, z = la + lb := ⟨_, rfl⟩
  have HAB := Lib.hid (show (a ++ b).length = N from by rw [List.length_append, ← HLA.out, ← HLB.out, hN])
  have HN := Lib.hid hN
  have hN1 : 1 ≤ N := by omega
  have hN2 : N ≤ 8002 := by omega
  clear hN
  go_upto_region 11 with (first
    | go_skip
    | ((with_reducible refine at_load_ ?_); refine at_wanted_ (by rfl) ?_; first | (refine wpList_loadf_mem (by go_simp) _ _ rfl (by kernel_rfl) 3 _ _ _ _ _ hM rfl rfl rfl ?_))
    | (go_at_call 39; refine (HCP.out _ (hM.row (f := pkC) (rs := a) 2 rfl)).mono ?_; rintro e W ⟨v8, rfl, hN8⟩; replace hM := hM.join hN8; simp only [List.cons_append, List.nil_append] at hM; clear hN8; dsimp only)
    | ((with_reducible refine at_append_ ?_); refine wpList_append_rows (f := pkC) (size := 9) rfl _ _ _ 40 rfl Try.underlying81 64 elem_pkt (by decide) 8 4 _ _ a b hM rfl rfl rfl rfl FPB.out.pos one_pkC (by have := FPA.out.few; have := FPB.out.few; omega) (by have := FPA.out.few; have := FPB.out.few; simp only [maxLen]; omega) ?_; clear hM; intro v9 W hM; simp only [List.set_cons_succ, List.set_cons_zero] at hM; obtain ⟨g7, off7, c7, rfl, -⟩ := (hM.row (f := pkC) (rs := a ++ b) 8 rfl).pos (by rw [HAB.out]; omega); rw [HAB.out] at hM ⊢)
    | ((with_reducible refine at_alloc_ (T := 81) ?_); refine wpList_alloc_mem rfl 81 rfl (.slice none 0 0) (fun _ => by kernel_rfl) [.slice none 0 0] rfl hM ?_; clear hM; intro gall W hM; simp only [List.cons_append, List.nil_append] at hM)
    | ((with_reducible refine at_store_ (T := 81) ?_); refine wpList_store1_mem rfl _ _ _ rfl 9 _ _ _ _ _ hM rfl rfl (by first | ((conv => lhs; whnf); done) | ((conv => lhs; whnf); rfl)) (by rfl) (by rfl) (by kernel_rfl) rfl ?_; clear hM; intro W hM; simp only [List.set_cons_succ, List.set_cons_zero] at hM))
  replace hM : Mem w W [atR gp 40 (pkC p), atR ga 81 [.slice Aa la ca], atR gq 40 (pkC q), atR gt 75 [.pointer (some ⟨g, 0, none⟩)], atR gall 81 [.slice (some ⟨g7, off7, none⟩) N c7], rowR 9 pkC (.slice (some ⟨g7, off7, none⟩) N c7) (a ++ b), tbR g gm, mpR gm []] := hM.pick [0, 3, 1, 5, 9, 8, 6, 7] (by decide) (by intro j hj; have h8 : j < 10 := (by simp at hj; omega); exact h8)
  go_upto_region 12 with (first
    | go_skip
    | ((with_reducible refine at_load_ ?_); refine at_wanted_ (by rfl) ?_; first | (refine wpList_loadf_mem (by go_simp) _ _ rfl (by kernel_rfl) 1 _ _ _ _ _ hM rfl rfl rfl ?_))
    | ((with_reducible refine at_alloc_ (T := 85) ?_); refine wpList_alloc_mem rfl 85 rfl (.agg #[.int .i64 0, .int .i64 0]) (fun _ => by kernel_rfl) [.int .i64 0, .int .i64 0] rfl hM ?_; clear hM; intro gl W hM; simp only [List.cons_append, List.nil_append] at hM)
    | ((with_reducible refine at_store_ (T := 85) ?_); refine wpList_store_mem rfl 85 _ _ rfl 8 _ _ _ [.int .i64 la, .int .i64 lb] hM rfl rfl rfl rfl (by kernel_rfl) rfl ?_; clear hM; intro W hM; simp only [List.set_cons_succ, List.set_cons_zero] at hM))
  go_upto_region 14 with (first
    | go_skip
    | ((with_reducible refine at_makeMap_ ?_); refine wpList_makeMap_m rfl rfl Try.prog 3 fInt fInt hM ?_; clear hM; intro gsm W hM; simp only [List.cons_append, List.nil_append] at hM)
    | ((with_reducible refine at_alloc_ (T := 86) ?_); refine wpList_alloc_mem rfl 86 rfl (.map none) (fun _ => by kernel_rfl) [.map none] rfl hM ?_; clear hM; intro gs W hM; simp only [List.cons_append, List.nil_append] at hM)
    | ((with_reducible refine at_store_ (T := 86) ?_); refine wpList_store1_mem rfl _ _ _ rfl 10 _ _ _ _ _ hM rfl rfl (by first | ((conv => lhs; whnf); done) | ((conv => lhs; whnf); rfl)) (by rfl) (by rfl) (by kernel_rfl) rfl ?_; clear hM; intro W hM; simp only [List.set_cons_succ, List.set_cons_zero] at hM))
  replace hM : Mem w W (atR gp 40 (pkC p) :: atR ga 81 [.slice Aa la ca] :: atR gq 40 (pkC q) :: atR gt 75 [.pointer (some ⟨g, 0, none⟩)] :: atR gall 81 [.slice (some ⟨g7, off7, none⟩) N c7] :: atR gs 86 [.map (some gsm)] :: atR gl 85 [.int .i64 la, .int .i64 lb] :: rowR 9 pkC (.slice (some ⟨g7, off7, none⟩) N c7) (a ++ b) :: mapR Try.prog 3 fInt fInt gsm [] :: fgL g gm []) := hM.pick [0, 1, 2, 3, 4, 10, 8, 5, 9, 6, 7] (by decide) (by intro j hj; have h8 : j < 11 := (by simp at hj; omega); exact h8)
  have HF := Lib.hid (fun (W : World) (k : Nat) (h : FwRel gp ga gq gt gall gs gl gsm g gm g7 off7 c7 la lb N Aa ca p q a b noE w W) (hk : k < N) => fw_any gp ga gq gt gall gs gl gsm g gm g7 off7 c7 la lb N Aa ca p q a b W k h HLA.out.symm HLB.out.symm HN.out hN2 FPA.out FPB.out HKP.out hk)
  have HR := Lib.hid (show FwRel gp ga gq gt gall gs gl gsm g gm g7 off7 c7 la lb N Aa ca p q a b noE w W from ⟨noneS, [], [], la, lb, hM, Lib.hid (winv_new FPA.out FPB.out), Lib.hid (cntF_none la).symm, Lib.hid (cntF_none lb).symm⟩)
  clear hM t1 t2
  go_wp2_with fail
  go_loopg [85] n3 (fun gh i wr => ∃ (j : Nat), gh = n3 - j ∧ j ≤ n3 ∧ i = .int .i64 j ∧ Hid (FwRel gp ga gq gt gall gs gl gsm g gm g7 off7 c7 la lb N Aa ca p q a b noE w wr))
  case atStart => exact ⟨0, by omega, by omega, rfl, HR⟩
  case round =>
    clear HR
    obtain ⟨j, hgj, hj, rfl, HR⟩ := hrel
    have HGJ := Lib.hid hgj
    clear hgj
    have hM := HR.out.mem
    by_cases hlt : j < n3
    · obtain ⟨b3, off3, hA, hrg⟩ := hR3.at_ j hlt
      subst hA
      have hokx := hR3.ok j hlt
      obtain ⟨x, hcs, hx1, hx2⟩ := whole_one hokx
      have hcell : wr.cell? ⟨b3, off3 + j, none⟩ = some (.int .i64 x) := by
        have := range_kept hrg hM.b 0 (.int .i64 x) (by rw [hcs]; rfl)
        simpa using this
      obtain ⟨xi, hxi⟩ : ∃ z, z = x % (N : Int) := ⟨_, rfl⟩
      have HRS := Lib.hid (fun W => (Rest_any x N W hx1 hx2 (by omega) (by omega)).mono (fun e w' h => (by rw [hxi]; exact h : e = .returned (.int .i64 xi) ∧ W = w')))
      obtain ⟨i, hi⟩ : ∃ i : Nat, xi = (i : Int) := ⟨xi.toNat, by have := Int.emod_nonneg x (show (N : Int) ≠ 0 by omega); omega⟩
      have hiN : i < N := by have := Int.emod_lt_of_pos x (show (0 : Int) < N by omega); omega
      rw [hi] at HRS
      clear hxi hi xi hcs hrg hokx
      go_wp2_with (first
        | go_skip
        | (go_at_call 16; refine (HRS.out _).mono ?_; rintro e W ⟨rfl, rfl⟩; dsimp only)
        | (go_at_call 40; refine (HF.out _ _ HR.out hiN).mono ?_; rintro e W ⟨rfl, hR⟩; clear HR hM; have HR := Lib.hid hR; have hM := hR.mem; clear hR; dsimp only)
        | ((with_reducible refine at_load_ ?_); refine at_wanted_ (by rfl) ?_; first | (refine wpList_loadf_mem (by go_simp) _ _ rfl (by kernel_rfl) 4 _ _ _ _ _ hM rfl rfl rfl ?_)))
      go_roundg (n3 - (j + 1))
      case measure => have := HGJ.out; omega
      case rel => exact ⟨j + 1, rfl, by omega, by go_num, HR⟩
    · clear HGJ
      go_upto_region 21 with (first | go_skip | ((with_reducible refine at_load_ ?_); refine at_wanted_ (by rfl) ?_; first | (refine wpList_loadf_mem (by go_simp) _ _ rfl (by kernel_rfl) 4 _ _ _ _ _ hM rfl rfl rfl ?_)))
      go_loopg [99] N (fun gh i wr => ∃ (j : Nat), gh = N - j ∧ j ≤ N ∧ i = .int .i64 j ∧ Hid (FwRel gp ga gq gt gall gs gl gsm g gm g7 off7 c7 la lb N Aa ca p q a b noE w wr))
      case atStart => exact ⟨0, by omega, by omega, rfl, HR⟩
      case round =>
        clear HR hM
        obtain ⟨j2, hgj, hj2, rfl, HR⟩ := hrel
        have HGJ := Lib.hid hgj
        clear hgj
        have hM := HR.out.mem
        by_cases hlt2 : j2 < N
        · go_wp2_with (first
            | go_skip
            | (go_at_call 40; refine (HF.out _ _ HR.out hlt2).mono ?_; rintro e W ⟨rfl, hR⟩; clear HR hM; have HR := Lib.hid hR; have hM := hR.mem; clear hR; dsimp only))
          go_roundg (N - (j2 + 1))
          case measure => have := HGJ.out; omega
          case rel => exact ⟨j2 + 1, rfl, by omega, by go_num, HR⟩
        · go_wp2_with fail
          go_ret
          exact ⟨rfl, hM.b⟩
theorem w_FragWhole (a0a : Int) (a0b : Int) (a0c : Int) (a0d : Int) (a0e : Int) (b0f : Bool) (b0g : Bool) (a0i : Int) (s0j : ByteArray) (a1a : Int) (a1b : Int) (a1c : Int) (a1d : Int) (a1e : Int) (b1f : Bool) (b1g : Bool) (a1i : Int) (s1j : ByteArray) (a2 : Int) (A3 : Option Addr) (n3 c3 : Nat) (css3 : Nat → List Value) (w : World) (ha0a : 0 ≤ a0a) (ha0a' : a0a ≤ 4294967295) (ha0b : 0 ≤ a0b) (ha0b' : a0b ≤ 4294967295) (ha0c : -9223372036854775808 ≤ a0c) (ha0c' : a0c ≤ 9223372036854775807) (ha0d : -9223372036854775808 ≤ a0d) (ha0d' : a0d ≤ 9223372036854775807) (ha0e : -9223372036854775808 ≤ a0e) (ha0e' : a0e ≤ 9223372036854775807) (ha0i : -9223372036854775808 ≤ a0i) (ha0i' : a0i ≤ 9223372036854775807) (hs0j : s0j.size ≤ 9223372036854775807) (ha1a : 0 ≤ a1a) (ha1a' : a1a ≤ 4294967295) (ha1b : 0 ≤ a1b) (ha1b' : a1b ≤ 4294967295) (ha1c : -9223372036854775808 ≤ a1c) (ha1c' : a1c ≤ 9223372036854775807) (ha1d : -9223372036854775808 ≤ a1d) (ha1d' : a1d ≤ 9223372036854775807) (ha1e : -9223372036854775808 ≤ a1e) (ha1e' : a1e ≤ 9223372036854775807) (ha1i : -9223372036854775808 ≤ a1i) (ha1i' : a1i ≤ 9223372036854775807) (hs1j : s1j.size ≤ 9223372036854775807) (ha2 : -9223372036854775808 ≤ a2) (ha2' : a2 ≤ 9223372036854775807) (hR3 : Rows_ w A3 n3 [.int .i64] css3) (hl3 : n3 ≤ 140737488351232) :
    Calls Try.prog 10 #[.agg #[.int .u32 a0a, .int .u32 a0b, .int .i64 a0c, .int .i64 a0d, .int .i64 a0e, .bool b0f, .bool b0g, .int .i64 a0i, .string s0j], .agg #[.int .u32 a1a, .int .u32 a1b, .int .i64 a1c, .int .i64 a1d, .int .i64 a1e, .bool b1f, .bool b1g, .int .i64 a1i, .string s1j], .int .i64 a2, .slice A3 n3 c3] w fun e w' => e = .returned (.bool true) ∧ Below w.heap.size w w' :=
  fragWhole_any ⟨a0a, a0b, a0c, a0d, a0e, b0f, b0g, a0i, s0j⟩ ⟨a1a, a1b, a1c, a1d, a1e, b1f, b1g, a1i, s1j⟩ a2 A3 n3 c3 css3 w ⟨⟨ha0a, ha0a'⟩, ⟨ha0b, ha0b'⟩, ⟨ha0c, ha0c'⟩, ⟨ha0d, ha0d'⟩, ⟨ha0e, ha0e'⟩, ⟨ha0i, ha0i'⟩, hs0j⟩ ⟨⟨ha1a, ha1a'⟩, ⟨ha1b, ha1b'⟩, ⟨ha1c, ha1c'⟩, ⟨ha1d, ha1d'⟩, ⟨ha1e, ha1e'⟩, ⟨ha1i, ha1i'⟩, hs1j⟩ ⟨ha2, ha2'⟩ hR3 hl3
end Go.Proofs.Ytmcdmgnpbhkdhaa
