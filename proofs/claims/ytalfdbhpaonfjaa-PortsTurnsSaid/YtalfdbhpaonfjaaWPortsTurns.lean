/- The walk of PortsTurns: it returns true. Written by my genpt.py. -/
import Derived.Test.YtalfdbhpaonfjaaBndT
import Derived.Test.YtalfdbhpaonfjaaMapI
import Derived.Test.YtalfdbhpaonfjaaOrdC
namespace Go.Proofs.Ytalfdbhpaonfjaa
open Go.RowKit Go.Lib
set_option linter.unusedVariables false
set_option linter.unusedSimpArgs false

set_option maxRecDepth 100000 in
set_option maxHeartbeats 16000000 in
theorem w_PortsTurns (a0 : Int) (a1a : Int) (a1b : Int) (a2a : Int) (a2b : Int) (a3 : Int) (w : World) (ha0 : -9223372036854775808 ≤ a0) (ha0' : a0 ≤ 9223372036854775807) (ha1a : 0 ≤ a1a) (ha1a' : a1a ≤ 4294967295) (ha1b : -9223372036854775808 ≤ a1b) (ha1b' : a1b ≤ 9223372036854775807) (ha2a : 0 ≤ a2a) (ha2a' : a2a ≤ 4294967295) (ha2b : -9223372036854775808 ≤ a2b) (ha2b' : a2b ≤ 9223372036854775807) (ha3 : 0 ≤ a3) (ha3' : a3 ≤ 18446744073709551615) :
    Calls Try.prog 8 #[.int .i64 a0, .agg #[.int .u32 a1a, .int .i64 a1b], .agg #[.int .u32 a2a, .int .i64 a2b], .int .u64 a3] w fun e w' => e = .returned (.bool true) ∧ Below w.heap.size w w' := by
  obtain ⟨n, rfl⟩ : ∃ n : Nat, a3 = n := ⟨a3.toNat, by omega⟩
  obtain ⟨r, hr, hr8⟩ : ∃ r : Nat, a0 % 8 = r ∧ r < 8 := ⟨(a0 % 8).toNat, by omega, by omega⟩
  have HR1 := Lib.hid (fun W => Rest_any a0 8 W (by omega) (by omega) (by omega) (by omega))
  have HR2 := Lib.hid (fun W => Rest_any a1b 65535 W (by omega) (by omega) (by omega) (by omega))
  have HR3 := Lib.hid (fun W => Rest_any a2b 65535 W (by omega) (by omega) (by omega) (by omega))
  rw [hr] at HR1
  have hp1 : 0 ≤ a1b % 65535 ∧ a1b % 65535 < 65535 := by omega
  have hp2 : 0 ≤ a2b % 65535 ∧ a2b % 65535 < 65535 := by omega
  have hM := Mem.nil w
  clear hr
  go_enter Try.func8, Try.ntmps8
  go_upto_region 1 with (first | ((with_reducible refine at_box_ ?_); refine wpList_box_mem rfl _ _ rfl _ rfl (show MemX noE w _ [] from hM) ?_; clear hM; intro gl W hM; simp only [List.nil_append] at hM) | ((with_reducible refine at_box_ ?_); refine wpList_box_mem rfl _ _ rfl _ rfl hM ?_; clear hM; intro gb W hM; simp only [List.cons_append, List.nil_append] at hM))
  replace hM : Mem w W [atR gl 41 (cEnd ⟨a1a, a1b⟩), atR gb 41 (cEnd ⟨a2a, a2b⟩)] := hM
  generalize a1b % 65535 = q1 at *
  generalize a2b % 65535 = q2 at *
  go_wp2_with fail
  refine (newports_any _).mono ?_
  rintro e W1 ⟨g, rfl, hM6⟩
  replace hM := hM.new_ hM6
  simp only [List.cons_append, List.nil_append] at hM
  clear hM6
  dsimp only
  have HD := Lib.hid (fun W h => Drop_none g (.slice none 0 0) [] 0 W h (by simp) rfl)
  go_upto_region 5 with         (first
          | go_skip
          | (go_at_call 22; refine (HD.out _ (p_hand _ hM)).mono ?_; rintro x W ⟨rfl, hM6⟩; replace hM := p_put _ hM hM6; clear hM6; dsimp only)
          | (go_at_call 23; go_must (refine (calls_b (HR1.out _)).mono ?_; rintro e W ⟨rfl, hb⟩; replace hM := hM.kept hb; clear hb))
          | ((with_reducible refine at_box_ ?_); refine wpList_box_mem rfl _ _ rfl _ rfl hM ?_; clear hM; intro gb W hM; first | (simp only [List.nil_append] at hM) | (simp only [List.cons_append, List.nil_append] at hM)))
  have c2 := hM.cells 2 rfl
  have c3 := hM.cells 3 rfl
  have l2 := hM.lt 2 rfl
  have l3 := hM.lt 3 rfl
  simp only [cEnd] at c2 c3
  clear c2 c3 l2 l3
  simp only [pL, List.cons_append, List.nil_append] at hM
  obtain ⟨ad, had1, had2, had3, had4⟩ : ∃ ad : Int, (a1a < 1 → ad = 1) ∧ (¬ a1a < 1 → ad = a1a) ∧ 1 ≤ ad ∧ ad ≤ 4294967295 := ⟨if a1a < 1 then 1 else a1a, fun h => if_pos h, fun h => if_neg h, by split <;> omega, by split <;> omega⟩
  have HX := Lib.hid (And.intro had1 had2)
  clear had1 had2
  refine wp_region_M [2,3] [12, 14, 16] hM (by kernel_rfl) ?_
  clear hM
  intro wo hM
  refine wpI_takeP (i := 0) (v := ?_) rfl (by kernel_rfl) (by kernel_rfl) (by kernel_rfl) (by first | exact fun _ _ _ h => h | exact fun _ _ _ h => HQ0.out _ _ _ _ _ h) (Or.inl ⟨by rfl, ?hy⟩) ?_
  case hy => (intro W; go_simp; (try with_reducible rfl))
  simp only [Act.put, List.getElem_toArray, List.getElem_cons_succ, List.getElem_cons_zero, List.setIfInBounds_toArray, List.set_cons_zero, List.set_cons_succ]
  refine wpI_takeT (i := 1) (v := ?_) rfl (by kernel_rfl) (by kernel_rfl) (by kernel_rfl) (by kernel_rfl) (by first | exact fun _ _ _ h => h | exact fun _ _ _ h => HQ0.out _ _ _ _ _ h) ⟨fun r hr => hM.get 2 hr, fun r hr => hM.get 3 hr, trivial⟩ (Or.inl ⟨by rfl, ?hy⟩) ?_
  case hy => (rintro W ⟨i2, i3, -⟩; have c2 := (show At W _ _ _ from i2 _ rfl).cell; have c3 := (show At W _ _ _ from i3 _ rfl).cell; (try simp only [cEnd] at c2 c3); go_simp; (try with_reducible rfl))
  simp only [Act.put, List.getElem_toArray, List.getElem_cons_succ, List.getElem_cons_zero, List.setIfInBounds_toArray, List.set_cons_zero, List.set_cons_succ]
  refine wpI_takeC (i := 2) rfl (by kernel_rfl) (by kernel_rfl) (by kernel_rfl) (by kernel_rfl) (by first | exact fun _ _ _ h => h | exact fun _ _ _ h => HQ0.out _ _ _ _ _ h) ⟨fun r hr => hM.get 2 hr, fun r hr => hM.get 3 hr, trivial⟩ ⟨by rfl, fun W hW => ⟨_, _, by (go_simp; first | done | rfl), HR2.out _⟩⟩ ?_
  simp only [Act.put, List.getElem_toArray, List.getElem_cons_succ, List.getElem_cons_zero, List.setIfInBounds_toArray, List.set_cons_zero, List.set_cons_succ]
  refine wpI_takeP (i := 3) (v := ?_) rfl (by kernel_rfl) (by kernel_rfl) (by kernel_rfl) (by first | exact fun _ _ _ h => h | exact fun _ _ _ h => HQ0.out _ _ _ _ _ h) (Or.inl ⟨by rfl, ?hy⟩) ?_
  case hy => (intro W; go_simp; (try with_reducible rfl))
  simp only [Act.put, List.getElem_toArray, List.getElem_cons_succ, List.getElem_cons_zero, List.setIfInBounds_toArray, List.set_cons_zero, List.set_cons_succ]
  refine wpI_takeP (i := 4) (v := ?_) rfl (by kernel_rfl) (by kernel_rfl) (by kernel_rfl) (by first | exact fun _ _ _ h => h | exact fun _ _ _ h => HQ0.out _ _ _ _ _ h) (Or.inl ⟨by rfl, ?hy⟩) ?_
  case hy => (intro W; go_simp; (try with_reducible rfl))
  simp only [Act.put, List.getElem_toArray, List.getElem_cons_succ, List.getElem_cons_zero, List.setIfInBounds_toArray, List.set_cons_zero, List.set_cons_succ]
  refine wpI_takeT (i := 5) (v := ?_) rfl (by kernel_rfl) (by kernel_rfl) (by kernel_rfl) (by kernel_rfl) (by first | exact fun _ _ _ h => h | exact fun _ _ _ h => HQ0.out _ _ _ _ _ h) ⟨fun r hr => hM.get 2 hr, fun r hr => hM.get 3 hr, trivial⟩ (Or.inl ⟨by rfl, ?hy⟩) ?_
  case hy => (rintro W ⟨i2, i3, -⟩; have c2 := (show At W _ _ _ from i2 _ rfl).cell; have c3 := (show At W _ _ _ from i3 _ rfl).cell; (try simp only [cEnd] at c2 c3); go_simp; (try with_reducible rfl))
  simp only [Act.put, List.getElem_toArray, List.getElem_cons_succ, List.getElem_cons_zero, List.setIfInBounds_toArray, List.set_cons_zero, List.set_cons_succ]
  refine wpI_takeP (i := 6) rfl (by kernel_rfl) (by kernel_rfl) (by kernel_rfl) (by first | exact fun _ _ _ h => h | exact fun _ _ _ h => HQ0.out _ _ _ _ _ h) ((show Yields _ _ _ (.int .u32 ad) _ from .inl ⟨by rfl, fun W => by by_cases hx : a1a < 1 <;> (first | rw [HX.out.1 hx] | rw [HX.out.2 hx]) <;> go_simp⟩)) ?_
  simp only [Act.put, List.getElem_toArray, List.getElem_cons_succ, List.getElem_cons_zero, List.setIfInBounds_toArray, List.set_cons_zero, List.set_cons_succ]
  (try simp only [Bool.not_true, Bool.not_false])
  refine wpI_takeP (i := 7) (v := ?_) rfl (by kernel_rfl) (by kernel_rfl) (by kernel_rfl) (by first | exact fun _ _ _ h => h | exact fun _ _ _ h => HQ0.out _ _ _ _ _ h) (Or.inl ⟨by rfl, ?hy⟩) ?_
  case hy => (intro W; go_simp; (try with_reducible rfl))
  simp only [Act.put, List.getElem_toArray, List.getElem_cons_succ, List.getElem_cons_zero, List.setIfInBounds_toArray, List.set_cons_zero, List.set_cons_succ]
  refine wpI_takeT (i := 8) (v := ?_) rfl (by kernel_rfl) (by kernel_rfl) (by kernel_rfl) (by kernel_rfl) (by first | exact fun _ _ _ h => h | exact fun _ _ _ h => HQ0.out _ _ _ _ _ h) ⟨fun r hr => hM.get 2 hr, fun r hr => hM.get 3 hr, trivial⟩ (Or.inl ⟨by rfl, ?hy⟩) ?_
  case hy => (rintro W ⟨i2, i3, -⟩; have c2 := (show At W _ _ _ from i2 _ rfl).cell; have c3 := (show At W _ _ _ from i3 _ rfl).cell; (try simp only [cEnd] at c2 c3); go_simp; (try with_reducible rfl))
  simp only [Act.put, List.getElem_toArray, List.getElem_cons_succ, List.getElem_cons_zero, List.setIfInBounds_toArray, List.set_cons_zero, List.set_cons_succ]
  refine wpI_takeC (i := 9) rfl (by kernel_rfl) (by kernel_rfl) (by kernel_rfl) (by kernel_rfl) (by first | exact fun _ _ _ h => h | exact fun _ _ _ h => HQ0.out _ _ _ _ _ h) ⟨fun r hr => hM.get 2 hr, fun r hr => hM.get 3 hr, trivial⟩ ⟨by rfl, fun W hW => ⟨_, _, by (go_simp; first | done | rfl), HR3.out _⟩⟩ ?_
  simp only [Act.put, List.getElem_toArray, List.getElem_cons_succ, List.getElem_cons_zero, List.setIfInBounds_toArray, List.set_cons_zero, List.set_cons_succ]
  refine wpI_takeP (i := 10) (v := ?_) rfl (by kernel_rfl) (by kernel_rfl) (by kernel_rfl) (by first | exact fun _ _ _ h => h | exact fun _ _ _ h => HQ0.out _ _ _ _ _ h) (Or.inl ⟨by rfl, ?hy⟩) ?_
  case hy => (intro W; go_simp; (try with_reducible rfl))
  simp only [Act.put, List.getElem_toArray, List.getElem_cons_succ, List.getElem_cons_zero, List.setIfInBounds_toArray, List.set_cons_zero, List.set_cons_succ]
  refine wpI_takeP (i := 11) (v := ?_) rfl (by kernel_rfl) (by kernel_rfl) (by kernel_rfl) (by first | exact fun _ _ _ h => h | exact fun _ _ _ h => HQ0.out _ _ _ _ _ h) (Or.inl ⟨by rfl, ?hy⟩) ?_
  case hy => (intro W; go_simp; (try with_reducible rfl))
  simp only [Act.put, List.getElem_toArray, List.getElem_cons_succ, List.getElem_cons_zero, List.setIfInBounds_toArray, List.set_cons_zero, List.set_cons_succ]
  refine wpI_one (i := 12) rfl (by kernel_rfl) ?_
  (try simp only [Act.put, List.getElem_toArray, List.getElem_cons_succ, List.getElem_cons_zero, List.setIfInBounds_toArray, List.set_cons_zero, List.set_cons_succ])
  go_wp2_with (first
      | go_skip
      | ((with_reducible refine at_box_ ?_); refine wpList_box_mem rfl _ _ rfl _ rfl hM ?_; clear hM; intro gb W hM; first | (simp only [List.nil_append] at hM) | (simp only [List.cons_append, List.nil_append] at hM))
      | ((with_reducible refine at_load_ ?_); refine at_wanted_ (by rfl) ?_; first | (refine wpList_loadf_mem (by go_simp) _ _ rfl (by kernel_rfl) 0 _ _ _ _ _ hM rfl rfl (by first | rfl | assumption) ?_) | (refine wpList_loadf_mem (by go_simp) _ _ rfl (by kernel_rfl) 1 _ _ _ _ _ hM rfl rfl (by first | rfl | assumption) ?_) | (refine wpList_loadf_mem (by go_simp) _ _ rfl (by kernel_rfl) 2 _ _ _ _ _ hM rfl rfl (by first | rfl | assumption) ?_) | (refine wpList_loadf_mem (by go_simp) _ _ rfl (by kernel_rfl) 3 _ _ _ _ _ hM rfl rfl (by first | rfl | assumption) ?_))
      | ((with_reducible refine at_store_ ?_); first | (refine wpList_store1_mem rfl _ _ _ rfl 0 _ _ _ _ _ hM rfl rfl (by first | ((conv => lhs; whnf); done) | ((conv => lhs; whnf); rfl)) (by rfl) (by rfl) (by kernel_rfl) rfl ?_; clear hM; intro W hM; simp only [cEnd, List.set_cons_succ, List.set_cons_zero] at hM) | (refine wpList_store1_mem rfl _ _ _ rfl 1 _ _ _ _ _ hM rfl rfl (by first | ((conv => lhs; whnf); done) | ((conv => lhs; whnf); rfl)) (by rfl) (by rfl) (by kernel_rfl) rfl ?_; clear hM; intro W hM; simp only [cEnd, List.set_cons_succ, List.set_cons_zero] at hM) | (refine wpList_store1_mem rfl _ _ _ rfl 2 _ _ _ _ _ hM rfl rfl (by first | ((conv => lhs; whnf); done) | ((conv => lhs; whnf); rfl)) (by rfl) (by rfl) (by kernel_rfl) rfl ?_; clear hM; intro W hM; simp only [cEnd, List.set_cons_succ, List.set_cons_zero] at hM) | (refine wpList_store1_mem rfl _ _ _ rfl 3 _ _ _ _ _ hM rfl rfl (by first | ((conv => lhs; whnf); done) | ((conv => lhs; whnf); rfl)) (by rfl) (by rfl) (by kernel_rfl) rfl ?_; clear hM; intro W hM; simp only [cEnd, List.set_cons_succ, List.set_cons_zero] at hM)))
  refine contI_late (by decide) ?_
  (try simp only [Act.put, List.getElem_toArray, List.getElem_cons_succ, List.getElem_cons_zero, List.setIfInBounds_toArray, List.set_cons_zero, List.set_cons_succ])
  refine wpI_takeP (i := 13) (v := ?_) rfl (by kernel_rfl) (by kernel_rfl) (by kernel_rfl) (by first | exact fun _ _ _ h => h | exact fun _ _ _ h => HQ0.out _ _ _ _ _ h) (Or.inl ⟨by rfl, ?hy⟩) ?_
  case hy => (intro W; go_simp; (try with_reducible rfl))
  simp only [Act.put, List.getElem_toArray, List.getElem_cons_succ, List.getElem_cons_zero, List.setIfInBounds_toArray, List.set_cons_zero, List.set_cons_succ]
  refine wpI_one (i := 14) rfl (by kernel_rfl) ?_
  (try simp only [Act.put, List.getElem_toArray, List.getElem_cons_succ, List.getElem_cons_zero, List.setIfInBounds_toArray, List.set_cons_zero, List.set_cons_succ])
  go_wp2_with (first
      | go_skip
      | ((with_reducible refine at_box_ ?_); refine wpList_box_mem rfl _ _ rfl _ rfl hM ?_; clear hM; intro gb W hM; first | (simp only [List.nil_append] at hM) | (simp only [List.cons_append, List.nil_append] at hM))
      | ((with_reducible refine at_load_ ?_); refine at_wanted_ (by rfl) ?_; first | (refine wpList_loadf_mem (by go_simp) _ _ rfl (by kernel_rfl) 0 _ _ _ _ _ hM rfl rfl (by first | rfl | assumption) ?_) | (refine wpList_loadf_mem (by go_simp) _ _ rfl (by kernel_rfl) 1 _ _ _ _ _ hM rfl rfl (by first | rfl | assumption) ?_) | (refine wpList_loadf_mem (by go_simp) _ _ rfl (by kernel_rfl) 2 _ _ _ _ _ hM rfl rfl (by first | rfl | assumption) ?_) | (refine wpList_loadf_mem (by go_simp) _ _ rfl (by kernel_rfl) 3 _ _ _ _ _ hM rfl rfl (by first | rfl | assumption) ?_))
      | ((with_reducible refine at_store_ ?_); first | (refine wpList_store1_mem rfl _ _ _ rfl 0 _ _ _ _ _ hM rfl rfl (by first | ((conv => lhs; whnf); done) | ((conv => lhs; whnf); rfl)) (by rfl) (by rfl) (by kernel_rfl) rfl ?_; clear hM; intro W hM; simp only [cEnd, List.set_cons_succ, List.set_cons_zero] at hM) | (refine wpList_store1_mem rfl _ _ _ rfl 1 _ _ _ _ _ hM rfl rfl (by first | ((conv => lhs; whnf); done) | ((conv => lhs; whnf); rfl)) (by rfl) (by rfl) (by kernel_rfl) rfl ?_; clear hM; intro W hM; simp only [cEnd, List.set_cons_succ, List.set_cons_zero] at hM) | (refine wpList_store1_mem rfl _ _ _ rfl 2 _ _ _ _ _ hM rfl rfl (by first | ((conv => lhs; whnf); done) | ((conv => lhs; whnf); rfl)) (by rfl) (by rfl) (by kernel_rfl) rfl ?_; clear hM; intro W hM; simp only [cEnd, List.set_cons_succ, List.set_cons_zero] at hM) | (refine wpList_store1_mem rfl _ _ _ rfl 3 _ _ _ _ _ hM rfl rfl (by first | ((conv => lhs; whnf); done) | ((conv => lhs; whnf); rfl)) (by rfl) (by rfl) (by kernel_rfl) rfl ?_; clear hM; intro W hM; simp only [cEnd, List.set_cons_succ, List.set_cons_zero] at hM)))
  refine contI_late (by decide) ?_
  (try simp only [Act.put, List.getElem_toArray, List.getElem_cons_succ, List.getElem_cons_zero, List.setIfInBounds_toArray, List.set_cons_zero, List.set_cons_succ])
  refine wpI_takeP (i := 15) (v := ?_) rfl (by kernel_rfl) (by kernel_rfl) (by kernel_rfl) (by first | exact fun _ _ _ h => h | exact fun _ _ _ h => HQ0.out _ _ _ _ _ h) (Or.inl ⟨by rfl, ?hy⟩) ?_
  case hy => (intro W; go_simp; (try with_reducible rfl))
  simp only [Act.put, List.getElem_toArray, List.getElem_cons_succ, List.getElem_cons_zero, List.setIfInBounds_toArray, List.set_cons_zero, List.set_cons_succ]
  refine wpI_one (i := 16) rfl (by kernel_rfl) ?_
  (try simp only [Act.put, List.getElem_toArray, List.getElem_cons_succ, List.getElem_cons_zero, List.setIfInBounds_toArray, List.set_cons_zero, List.set_cons_succ])
  go_wp2_with (first
      | go_skip
      | ((with_reducible refine at_box_ ?_); refine wpList_box_mem rfl _ _ rfl _ rfl hM ?_; clear hM; intro gb W hM; first | (simp only [List.nil_append] at hM) | (simp only [List.cons_append, List.nil_append] at hM))
      | ((with_reducible refine at_load_ ?_); refine at_wanted_ (by rfl) ?_; first | (refine wpList_loadf_mem (by go_simp) _ _ rfl (by kernel_rfl) 0 _ _ _ _ _ hM rfl rfl (by first | rfl | assumption) ?_) | (refine wpList_loadf_mem (by go_simp) _ _ rfl (by kernel_rfl) 1 _ _ _ _ _ hM rfl rfl (by first | rfl | assumption) ?_) | (refine wpList_loadf_mem (by go_simp) _ _ rfl (by kernel_rfl) 2 _ _ _ _ _ hM rfl rfl (by first | rfl | assumption) ?_) | (refine wpList_loadf_mem (by go_simp) _ _ rfl (by kernel_rfl) 3 _ _ _ _ _ hM rfl rfl (by first | rfl | assumption) ?_))
      | ((with_reducible refine at_store_ ?_); first | (refine wpList_store1_mem rfl _ _ _ rfl 0 _ _ _ _ _ hM rfl rfl (by first | ((conv => lhs; whnf); done) | ((conv => lhs; whnf); rfl)) (by rfl) (by rfl) (by kernel_rfl) rfl ?_; clear hM; intro W hM; simp only [cEnd, List.set_cons_succ, List.set_cons_zero] at hM) | (refine wpList_store1_mem rfl _ _ _ rfl 1 _ _ _ _ _ hM rfl rfl (by first | ((conv => lhs; whnf); done) | ((conv => lhs; whnf); rfl)) (by rfl) (by rfl) (by kernel_rfl) rfl ?_; clear hM; intro W hM; simp only [cEnd, List.set_cons_succ, List.set_cons_zero] at hM) | (refine wpList_store1_mem rfl _ _ _ rfl 2 _ _ _ _ _ hM rfl rfl (by first | ((conv => lhs; whnf); done) | ((conv => lhs; whnf); rfl)) (by rfl) (by rfl) (by kernel_rfl) rfl ?_; clear hM; intro W hM; simp only [cEnd, List.set_cons_succ, List.set_cons_zero] at hM) | (refine wpList_store1_mem rfl _ _ _ rfl 3 _ _ _ _ _ hM rfl rfl (by first | ((conv => lhs; whnf); done) | ((conv => lhs; whnf); rfl)) (by rfl) (by rfl) (by kernel_rfl) rfl ?_; clear hM; intro W hM; simp only [cEnd, List.set_cons_succ, List.set_cons_zero] at hM)))
  refine contI_late (by decide) ?_
  (try simp only [Act.put, List.getElem_toArray, List.getElem_cons_succ, List.getElem_cons_zero, List.setIfInBounds_toArray, List.set_cons_zero, List.set_cons_succ])
  refine wpI_done (by kernel_rfl) ?_ _
  (try simp only [Act.put, List.getElem_toArray, List.getElem_cons_succ, List.getElem_cons_zero, List.setIfInBounds_toArray, List.set_cons_zero, List.set_cons_succ])
  have e1 : Value.int .i64 (IntKind.i64.wrap (1 + q1)) = .int .i64 (1 + q1) := by rw [IntWalk.i64_in _ (by omega)]
  have e2 : Value.int .i64 (IntKind.i64.wrap (1 + q2)) = .int .i64 (1 + q2) := by rw [IntWalk.i64_in _ (by omega)]
  rw [e1, e2] at hM
  rw [e1, e2]
  clear e1 e2 HX
  have hq1 : 1 ≤ 1 + q1 ∧ 1 + q1 ≤ 65535 := by omega
  have hq2 : 1 ≤ 1 + q2 := by omega
  generalize 1 + q1 = p at hM hq1 ⊢
  generalize 1 + q2 = f at hM hq2 ⊢
  clear hp1 hp2 HR1 HR2 HR3 HD
  have HBD := Lib.hid (fun (k : Nat) (v : Value) (W : World) (hk : k < 8) h => by
    have h1 := Bind_any g v (tL ad p k) (tB ad p k) W h (tL_inv had3 had4 hq1.1 hq1.2 k (by omega))
    rw [(tL_bind had3 had4 hq1.1 hq1.2 k hk).1, (tL_bind had3 had4 hq1.1 hq1.2 k hk).2] at h1
    exact h1)
  have HBU := Lib.hid (fun (m : Nat) (v : Value) (W : World) (hm : 0 < m) (hm8 : m ≤ 8) h => by
    have h1 := Bind_any g v (tL ad p m) ⟨17, ad, p, 0, 0, false, 99⟩ W h (tL_inv had3 had4 hq1.1 hq1.2 m hm8)
    rw [tL_used had3 had4 hq1.1 hq1.2 m hm] at h1
    exact h1)
  have HFD := Lib.hid (fun (m N k : Nat) (v : Value) (W : World) (hm : 0 < m) (hm8 : m ≤ 8) (hN : N < 1152921504606846976) (hk : k < 8) hA hR => by
    have h1 := Find_any g v (tL ad p m) 17 ⟨ad, p⟩ ⟨a2a, f⟩ (N + k) W hA hR (by rw [tL_len]; omega) (by omega)
    rw [tL_find had3 had4 hq1.1 hq1.2 m hm a2a f hq2 (N + k), Int.natCast_add] at h1
    exact h1)
  replace hM : Mem w W [pA g (.slice none 0 0), pW (.slice none 0 0) (tL ad p 0), atR gl 41 [.int .u32 ad, .int .i64 p], atR gb 41 [.int .u32 a2a, .int .i64 f]] := hM
  go_wp2_with fail
  go_loopg [41] (r + 1) (fun gh i wr => ∃ (k : Nat) (v : Value), gh = r + 1 - k ∧ k ≤ r + 1 ∧ i = .int .i64 k ∧ Mem w wr [pA g v, pW v (tL ad p k), atR gl 41 [.int .u32 ad, .int .i64 p], atR gb 41 [.int .u32 a2a, .int .i64 f]])
  case atStart => exact ⟨0, _, by omega, by omega, rfl, hM⟩
  case round =>
    clear hM
    obtain ⟨k, v, hgk, hk, rfl, hM⟩ := hrel
    have HGK := Lib.hid hgk
    clear hgk
    by_cases hlt : k < r + 1
    · go_wp2_with (first
        | go_skip
        | (go_at_call 24; refine (HBD.out k _ _ (by omega) (p_hand _ hM)).mono ?_; rintro x W ⟨v6, rfl, hM6⟩; replace hM := p_put _ hM hM6; clear hM6; dsimp only)
        | ((with_reducible refine at_box_ ?_); refine wpList_box_mem rfl _ _ rfl _ rfl hM ?_; clear hM; intro gb W hM; first | (simp only [List.nil_append] at hM) | (simp only [List.cons_append, List.nil_append] at hM))
        | ((with_reducible refine at_alloc_ (T := 41) ?_); refine wpList_alloc_mem rfl 41 rfl _ zv_End _ rfl hM ?_; clear hM; intro gb W hM; first | (simp only [List.nil_append] at hM) | (simp only [List.cons_append, List.nil_append] at hM))
        | ((with_reducible refine at_load_ (T := 41) ?_); refine at_wanted_ (by rfl) ?_; first | (refine wpList_loadg_mem (by go_simp) 41 _ rfl 0 _ _ _ hM rfl rfl _ Try.underlying41 rfl sz_End ?_) | (refine wpList_loadg_mem (by go_simp) 41 _ rfl 1 _ _ _ hM rfl rfl _ Try.underlying41 rfl sz_End ?_) | (refine wpList_loadg_mem (by go_simp) 41 _ rfl 2 _ _ _ hM rfl rfl _ Try.underlying41 rfl sz_End ?_) | (refine wpList_loadg_mem (by go_simp) 41 _ rfl 3 _ _ _ hM rfl rfl _ Try.underlying41 rfl sz_End ?_))
        | ((with_reducible refine at_store_ (T := 41) ?_); first | (refine wpList_store_mem rfl 41 _ _ rfl 0 _ _ _ _ hM rfl rfl rfl rfl sz_End rfl ?_; clear hM; intro W hM; simp only [List.set_cons_zero] at hM) | (refine wpList_store_mem rfl 41 _ _ rfl 1 _ _ _ _ hM rfl rfl rfl rfl sz_End rfl ?_; clear hM; intro W hM; simp only [List.set_cons_succ, List.set_cons_zero] at hM) | (refine wpList_store_mem rfl 41 _ _ rfl 2 _ _ _ _ hM rfl rfl rfl rfl sz_End rfl ?_; clear hM; intro W hM; simp only [List.set_cons_succ, List.set_cons_zero] at hM) | (refine wpList_store_mem rfl 41 _ _ rfl 3 _ _ _ _ hM rfl rfl rfl rfl sz_End rfl ?_; clear hM; intro W hM; simp only [List.set_cons_succ, List.set_cons_zero] at hM)))
      go_roundg (r + 1 - (k + 1))
      case measure => have := HGK.out; omega
      case rel => exact ⟨k + 1, v6, rfl, by omega, by go_num, hM⟩
    · obtain rfl : k = r + 1 := by omega
      clear HBD
      obtain ⟨N, hN⟩ : ∃ N : Nat, N = n % 1152921504606846976 := ⟨_, rfl⟩
      have hN2 : N < 1152921504606846976 := by omega
      have hN3 : (n : Int) % 1152921504606846976 = (N : Int) := by omega
      clear hN
      go_upto_region 14 with         (first
          | go_skip
          | ((with_reducible refine at_makeMap_ ?_); refine wpList_makeMap_m rfl rfl Try.prog 3 fInt fInt hM ?_; clear hM; intro gm W hM; simp only [pL, List.cons_append, List.nil_append] at hM)
          | ((with_reducible refine at_box_ ?_); refine wpList_box_mem rfl _ _ rfl _ rfl hM ?_; clear hM; intro gb W hM; first | (simp only [List.nil_append] at hM) | (simp only [List.cons_append, List.nil_append] at hM)))
      clear hq2 had3 had4 hq1 HGK
      go_wp2_with fail
      simp only [hN3]
      clear hN3
      have HKN := Lib.hid hN2
      go_loopg [56] (r + 1) (fun gh i wr => ∃ (k : Nat) (mm : List (Int × Int)), gh = r + 1 - k ∧ k ≤ r + 1 ∧ i = .int .i64 k ∧ Mem w wr [pA g v, pW v (tL ad p (r + 1)), atR gl 41 [.int .u32 ad, .int .i64 p], atR gb 41 [.int .u32 a2a, .int .i64 f], mapR Try.prog 3 fInt fInt gm mm] ∧ Hid (∀ q ∈ mm, ∃ j : Nat, j < k ∧ q.1 = (((N + j) % (r + 1) : Nat) : Int) + 1))
      case atStart => exact ⟨0, [], by omega, by omega, rfl, hM, Lib.hid (by simp)⟩
      case round =>
        clear hM
        obtain ⟨k, mm, hgk, hk, rfl, hM, HS⟩ := hrel
        have HGK := Lib.hid hgk
        clear hgk
        by_cases hlt : k < r + 1
        · have hF1 := fun v W => HFD.out (r + 1) N k v W (by omega) (by omega) HKN.out (by omega)
          have hget : mGet mm ((((N + k) % (r + 1) : Nat) : Int) + 1) = none := mGet_none fun q hq e => by
            obtain ⟨j, hj, e2⟩ := HS.out q hq
            rw [e2] at e
            exact turn_ne (N := N) hj hlt (by omega)
          have HS2 := Lib.hid (fun (q : Int × Int) (hq : q ∈ mPut mm ((((N + k) % (r + 1) : Nat) : Int) + 1) 1) => (by
            rcases mPut_mem hq with h1 | h1
            · obtain ⟨j, hj, e2⟩ := HS.out q h1
              exact ⟨j, by omega, e2⟩
            · exact ⟨k, by omega, h1⟩ : ∃ j : Nat, j < k + 1 ∧ q.1 = (((N + j) % (r + 1) : Nat) : Int) + 1))
          have hor : (N + k) % (r + 1) < r + 1 := Nat.mod_lt _ (by omega)
          generalize (N + k) % (r + 1) = ok at hF1 hget HS2 hor
          have HF1 := Lib.hid hF1
          have HKO := Lib.hid (show KeyOk Try.prog 3 fInt ((ok : Int) + 1) from keyOk_int (by omega))
          clear hF1
          go_wp2_with (first
            | go_skip
            | (go_at_call 25; refine (HF1.out _ _ (hM.at_ 0 rfl) (hM.toRd 1 rfl)).mono ?_; rintro x W ⟨rfl, hb⟩; replace hM := hM.kept hb; clear hb; dsimp only)
            | ((with_reducible refine at_lookup_ ?_); refine wpList_lookup_m (by first | rfl | go_simp) _ _ false rfl mapTy_turn (.int .i64 0) (fun _ => by kernel_rfl) 4 hM rfl rfl ((ok : Int) + 1) rfl HKO.out ?_; simp only [hget, Option.elim, Bool.false_eq_true, if_false])
            | ((with_reducible refine at_mapUpdate_ ?_); refine wpList_mapUpdate_m rfl _ _ _ rfl mapTy_turn 4 hM rfl rfl ((ok : Int) + 1) rfl HKO.out 1 rfl ?_; clear hM; intro W hM; simp only [List.set_cons_succ, List.set_cons_zero] at hM)
            | ((with_reducible refine at_box_ ?_); refine wpList_box_mem rfl _ _ rfl _ rfl hM ?_; clear hM; intro gb W hM; first | (simp only [List.nil_append] at hM) | (simp only [List.cons_append, List.nil_append] at hM))
            | ((with_reducible refine at_alloc_ (T := 41) ?_); refine wpList_alloc_mem rfl 41 rfl _ zv_End _ rfl hM ?_; clear hM; intro gb W hM; first | (simp only [List.nil_append] at hM) | (simp only [List.cons_append, List.nil_append] at hM))
            | ((with_reducible refine at_load_ (T := 41) ?_); refine at_wanted_ (by rfl) ?_; first | (refine wpList_loadg_mem (by go_simp) 41 _ rfl 0 _ _ _ hM rfl rfl _ Try.underlying41 rfl sz_End ?_) | (refine wpList_loadg_mem (by go_simp) 41 _ rfl 1 _ _ _ hM rfl rfl _ Try.underlying41 rfl sz_End ?_) | (refine wpList_loadg_mem (by go_simp) 41 _ rfl 2 _ _ _ hM rfl rfl _ Try.underlying41 rfl sz_End ?_) | (refine wpList_loadg_mem (by go_simp) 41 _ rfl 3 _ _ _ hM rfl rfl _ Try.underlying41 rfl sz_End ?_))
            | ((with_reducible refine at_store_ (T := 41) ?_); first | (refine wpList_store_mem rfl 41 _ _ rfl 0 _ _ _ _ hM rfl rfl rfl rfl sz_End rfl ?_; clear hM; intro W hM; simp only [List.set_cons_zero] at hM) | (refine wpList_store_mem rfl 41 _ _ rfl 1 _ _ _ _ hM rfl rfl rfl rfl sz_End rfl ?_; clear hM; intro W hM; simp only [List.set_cons_succ, List.set_cons_zero] at hM) | (refine wpList_store_mem rfl 41 _ _ rfl 2 _ _ _ _ hM rfl rfl rfl rfl sz_End rfl ?_; clear hM; intro W hM; simp only [List.set_cons_succ, List.set_cons_zero] at hM) | (refine wpList_store_mem rfl 41 _ _ rfl 3 _ _ _ _ hM rfl rfl rfl rfl sz_End rfl ?_; clear hM; intro W hM; simp only [List.set_cons_succ, List.set_cons_zero] at hM)))
          go_roundg (r + 1 - (k + 1))
          case measure => have := HGK.out; omega
          case rel => exact ⟨k + 1, _, rfl, by omega, by go_num, hM, HS2⟩
        · have HB1 := Lib.hid (fun W => HBU.out (r + 1) v W (by omega) (by omega))
          go_wp2_with (first
            | go_skip
            | (go_at_call 24; refine (HB1.out _ (p_hand _ hM)).mono ?_; rintro x W ⟨v6, rfl, hM6⟩; replace hM := p_put _ hM hM6; clear hM6; dsimp only)
            | ((with_reducible refine at_box_ ?_); refine wpList_box_mem rfl _ _ rfl _ rfl hM ?_; clear hM; intro gb W hM; first | (simp only [List.nil_append] at hM) | (simp only [List.cons_append, List.nil_append] at hM))
            | ((with_reducible refine at_alloc_ (T := 41) ?_); refine wpList_alloc_mem rfl 41 rfl _ zv_End _ rfl hM ?_; clear hM; intro gb W hM; first | (simp only [List.nil_append] at hM) | (simp only [List.cons_append, List.nil_append] at hM))
            | ((with_reducible refine at_load_ (T := 41) ?_); refine at_wanted_ (by rfl) ?_; first | (refine wpList_loadg_mem (by go_simp) 41 _ rfl 0 _ _ _ hM rfl rfl _ Try.underlying41 rfl sz_End ?_) | (refine wpList_loadg_mem (by go_simp) 41 _ rfl 1 _ _ _ hM rfl rfl _ Try.underlying41 rfl sz_End ?_) | (refine wpList_loadg_mem (by go_simp) 41 _ rfl 2 _ _ _ hM rfl rfl _ Try.underlying41 rfl sz_End ?_) | (refine wpList_loadg_mem (by go_simp) 41 _ rfl 3 _ _ _ hM rfl rfl _ Try.underlying41 rfl sz_End ?_))
            | ((with_reducible refine at_store_ (T := 41) ?_); first | (refine wpList_store_mem rfl 41 _ _ rfl 0 _ _ _ _ hM rfl rfl rfl rfl sz_End rfl ?_; clear hM; intro W hM; simp only [List.set_cons_zero] at hM) | (refine wpList_store_mem rfl 41 _ _ rfl 1 _ _ _ _ hM rfl rfl rfl rfl sz_End rfl ?_; clear hM; intro W hM; simp only [List.set_cons_succ, List.set_cons_zero] at hM) | (refine wpList_store_mem rfl 41 _ _ rfl 2 _ _ _ _ hM rfl rfl rfl rfl sz_End rfl ?_; clear hM; intro W hM; simp only [List.set_cons_succ, List.set_cons_zero] at hM) | (refine wpList_store_mem rfl 41 _ _ rfl 3 _ _ _ _ hM rfl rfl rfl rfl sz_End rfl ?_; clear hM; intro W hM; simp only [List.set_cons_succ, List.set_cons_zero] at hM)))
          go_ret
          exact ⟨rfl, hM.b⟩
end Go.Proofs.Ytalfdbhpaonfjaa
