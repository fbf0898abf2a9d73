/- The walk of ListenFull. -/
import Derived.Test.YtmcdmgnpbhkdhaaLisL
import Derived.Test.YtmcdmgnpbhkdhaaRest
namespace Go.Proofs.Ytmcdmgnpbhkdhaa
open Go.RowKit Go.Lib
set_option linter.unusedVariables false

set_option maxRecDepth 100000 in
set_option maxHeartbeats 8000000 in
theorem w_ListenFull (a0 : Int) (w : World) (ha0 : -9223372036854775808 ≤ a0) (ha0' : a0 ≤ 9223372036854775807) :
    Calls Try.prog 5 #[.int .i64 a0] w fun e w' => e = .returned (.bool true) ∧ Below w.heap.size w w' := by
  obtain ⟨b, hb⟩ : ∃ b : Nat, 1 + a0 % 8 = (b : Int) := ⟨(1 + a0 % 8).toNat, by omega⟩
  have b1 : 1 ≤ b := by omega
  have b2 : b ≤ 8 := by omega
  have HF := Lib.hid (full_facts b b1 b2)
  have HB := Lib.hid hb
  clear hb
  have p0 : (0 : Int) ≤ a0 % 8 := by omega
  have p1 : a0 % 8 ≤ 7 := by omega
  go_enter Try.func5, Try.ntmps5
  go_upto_region 2 with (go_at_call 16; refine (Rest_any a0 8 _ (by omega) (by omega) (by omega) (by omega)).mono ?_; rintro e W ⟨rfl, rfl⟩; dsimp only)
  rw [HB.out]
  clear p0 p1
  have p1 : (1 : Int) ≤ (b : Int) := by omega
  have p2 : (b : Int) ≤ 8 := by omega
  go_wp2_with fail
  refine (newlis_yes b _ p1 p2).mono ?_
  rintro e W ⟨g, gm, rfl, hM⟩
  dsimp only
  go_wp2_with fail
  go_loopg [27] b (fun gh i wr => ∃ (k : Nat) (v : Value), gh = b - k ∧ k ≤ b ∧ i = .int .i64 k ∧ Mem w wr (lisL g gm (qN b k) v))
  case atStart => exact ⟨0, _, by omega, by omega, rfl, hM⟩
  case round =>
    clear hM
    obtain ⟨k, v, hgk, hk, rfl, hM⟩ := hrel
    have HGK := Lib.hid hgk
    clear hgk
    by_cases hlt : k < b
    · have hh := Half_any g gm (qN b k) v ⟨0, (k : Int)⟩ wr (lis_hand [] hM) (qN_ok b k hk b1 b2) (eok k (by omega) (by omega))
      obtain ⟨f1, f2, f3⟩ := qN_step b k hlt
      rw [f1, f2, f3] at hh
      have HH := Lib.hid hh
      clear hh f1 f2 f3
      go_wp2_with fail
      refine HH.out.mono ?_
      rintro e W1 ⟨rfl, hM1⟩
      have hM2 := lis_put [] hM hM1
      dsimp only
      go_wp2_with fail
      go_roundg (b - (k + 1))
      case measure => have := HGK.out; omega
      case rel => exact ⟨k + 1, v, rfl, by omega, by go_num, hM2⟩
    · obtain rfl : k = b := by omega
      have hA := Half_any g gm (qN k k) v e99 wr (lis_hand [] hM) (qN_ok k k hk b1 b2) (eok 99 (by omega) (by omega))
      rw [HF.out.a0, HF.out.a1, HF.out.a2] at hA
      have HA := Lib.hid hA
      clear hA
      go_wp2_with fail
      refine HA.out.mono ?_
      rintro e W1 ⟨rfl, hM1⟩
      have hM2 := lis_put [] hM hM1
      clear hM hM1 HA
      dsimp only
      have hA := Gone_any g gm (qN k k) v e00 W1 (lis_hand [] hM2) (qN_ok k k hk b1 b2) (eok 0 (by omega) (by omega))
      rw [HF.out.b1] at hA
      have HA := Lib.hid hA
      clear hA
      go_wp2_with fail
      refine HA.out.mono ?_
      rintro e W2 ⟨v2, rfl, hM1⟩
      have hM := lis_put [] hM2 hM1
      clear hM2 hM1 HA
      dsimp only
      have hA := Half_any g gm (qF1 k) v2 e99 W2 (lis_hand [] hM) HF.out.b0 (eok 99 (by omega) (by omega))
      rw [HF.out.c1, HF.out.c2] at hA
      have HA := Lib.hid hA
      clear hA
      go_wp2_with fail
      refine HA.out.mono ?_
      rintro e W3 ⟨rfl, hM1⟩
      have hM2 := lis_put [] hM hM1
      clear hM hM1 HA
      dsimp only
      have hA := Done_any g gm (qF2 k) v2 e99 7 W3 (lis_hand [] hM2) HF.out.c0 (eok 99 (by omega) (by omega))
      rw [HF.out.d1] at hA
      have HA := Lib.hid hA
      clear hA
      go_wp2_with fail
      refine HA.out.mono ?_
      rintro e W4 ⟨v4, rfl, hM1⟩
      have hM := lis_put [] hM2 hM1
      clear hM2 hM1 HA
      dsimp only
      have hA := Half_any g gm (qF3 k) v4 e98 W4 (lis_hand [] hM) HF.out.d0 (eok 98 (by omega) (by omega))
      rw [HF.out.f1, HF.out.f2] at hA
      have HA := Lib.hid hA
      clear hA
      go_wp2_with fail
      refine HA.out.mono ?_
      rintro e W5 ⟨rfl, hM1⟩
      have hM2 := lis_put [] hM hM1
      clear hM hM1 HA
      dsimp only
      have HA := Lib.hid (Take_some g gm (qF4 k) v4 W5 (lis_hand [] hM2) HF.out.f0 _ _ HF.out.f3)
      go_wp2_with fail
      refine HA.out.mono ?_
      rintro e W6 ⟨v6, rfl, hM1⟩
      have hM := lis_put [] hM2 hM1
      clear hM2 hM1 HA
      dsimp only
      go_wp2_with         (first
          | (refine at_box_ ?_; refine wpList_box_mem rfl _ _ rfl _ rfl hM ?_; clear hM; intro gb W hM; first | (simp only [List.nil_append] at hM) | (simp only [List.cons_append, List.nil_append] at hM))
          | (refine at_alloc_ (T := 42) ?_; refine wpList_alloc_mem rfl 42 rfl _ zv_End _ rfl hM ?_; clear hM; intro gb W hM; first | (simp only [List.nil_append] at hM) | (simp only [List.cons_append, List.nil_append] at hM))
          | (refine at_load_ (T := 42) ?_; refine at_wanted_ (by go_simp) ?_; first | (refine wpList_loadg_mem (by go_simp) 42 _ rfl 0 _ _ _ hM rfl rfl _ Try.underlying42 rfl sz_End ?_) | (refine wpList_loadg_mem (by go_simp) 42 _ rfl 1 _ _ _ hM rfl rfl _ Try.underlying42 rfl sz_End ?_) | (refine wpList_loadg_mem (by go_simp) 42 _ rfl 2 _ _ _ hM rfl rfl _ Try.underlying42 rfl sz_End ?_) | (refine wpList_loadg_mem (by go_simp) 42 _ rfl 3 _ _ _ hM rfl rfl _ Try.underlying42 rfl sz_End ?_) | (refine wpList_loadg_mem (by go_simp) 42 _ rfl 4 _ _ _ hM rfl rfl _ Try.underlying42 rfl sz_End ?_))
          | (refine at_store_ (T := 42) ?_; first | (refine wpList_store_mem rfl 42 _ _ rfl 0 _ _ _ _ hM rfl rfl rfl rfl sz_End rfl ?_; clear hM; intro W hM; simp only [List.set_cons_zero] at hM) | (refine wpList_store_mem rfl 42 _ _ rfl 1 _ _ _ _ hM rfl rfl rfl rfl sz_End rfl ?_; clear hM; intro W hM; simp only [List.set_cons_succ, List.set_cons_zero] at hM) | (refine wpList_store_mem rfl 42 _ _ rfl 2 _ _ _ _ hM rfl rfl rfl rfl sz_End rfl ?_; clear hM; intro W hM; simp only [List.set_cons_succ, List.set_cons_zero] at hM) | (refine wpList_store_mem rfl 42 _ _ rfl 3 _ _ _ _ hM rfl rfl rfl rfl sz_End rfl ?_; clear hM; intro W hM; simp only [List.set_cons_succ, List.set_cons_zero] at hM) | (refine wpList_store_mem rfl 42 _ _ rfl 4 _ _ _ _ hM rfl rfl rfl rfl sz_End rfl ?_; clear hM; intro W hM; simp only [List.set_cons_succ, List.set_cons_zero] at hM))
          | (refine at_load_ ?_; refine at_wanted_ (by go_simp) ?_; first | (refine wpList_loadf_mem (by go_simp) _ _ rfl (by kernel_rfl) 0 _ _ _ _ _ hM rfl rfl (by first | rfl | assumption) ?_) | (refine wpList_loadf_mem (by go_simp) _ _ rfl (by kernel_rfl) 1 _ _ _ _ _ hM rfl rfl (by first | rfl | assumption) ?_) | (refine wpList_loadf_mem (by go_simp) _ _ rfl (by kernel_rfl) 2 _ _ _ _ _ hM rfl rfl (by first | rfl | assumption) ?_) | (refine wpList_loadf_mem (by go_simp) _ _ rfl (by kernel_rfl) 3 _ _ _ _ _ hM rfl rfl (by first | rfl | assumption) ?_) | (refine wpList_loadf_mem (by go_simp) _ _ rfl (by kernel_rfl) 4 _ _ _ _ _ hM rfl rfl (by first | rfl | assumption) ?_))
          | (refine at_store_ ?_; first | (refine wpList_store1_mem rfl _ _ _ rfl 0 _ _ _ _ _ hM rfl rfl (by first | ((conv => lhs; whnf); done) | ((conv => lhs; whnf); rfl)) (by rfl) (by rfl) (by kernel_rfl) rfl ?_; clear hM; intro W hM; simp only [List.set_cons_succ, List.set_cons_zero] at hM) | (refine wpList_store1_mem rfl _ _ _ rfl 1 _ _ _ _ _ hM rfl rfl (by first | ((conv => lhs; whnf); done) | ((conv => lhs; whnf); rfl)) (by rfl) (by rfl) (by kernel_rfl) rfl ?_; clear hM; intro W hM; simp only [List.set_cons_succ, List.set_cons_zero] at hM) | (refine wpList_store1_mem rfl _ _ _ rfl 2 _ _ _ _ _ hM rfl rfl (by first | ((conv => lhs; whnf); done) | ((conv => lhs; whnf); rfl)) (by rfl) (by rfl) (by kernel_rfl) rfl ?_; clear hM; intro W hM; simp only [List.set_cons_succ, List.set_cons_zero] at hM) | (refine wpList_store1_mem rfl _ _ _ rfl 3 _ _ _ _ _ hM rfl rfl (by first | ((conv => lhs; whnf); done) | ((conv => lhs; whnf); rfl)) (by rfl) (by rfl) (by kernel_rfl) rfl ?_; clear hM; intro W hM; simp only [List.set_cons_succ, List.set_cons_zero] at hM) | (refine wpList_store1_mem rfl _ _ _ rfl 4 _ _ _ _ _ hM rfl rfl (by first | ((conv => lhs; whnf); done) | ((conv => lhs; whnf); rfl)) (by rfl) (by rfl) (by kernel_rfl) rfl ?_; clear hM; intro W hM; simp only [List.set_cons_succ, List.set_cons_zero] at hM)))
      go_ret
      exact ⟨rfl, hM.b⟩
end Go.Proofs.Ytmcdmgnpbhkdhaa
