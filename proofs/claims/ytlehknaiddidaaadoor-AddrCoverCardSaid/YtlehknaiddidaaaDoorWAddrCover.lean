/- AddrCover, over a range given downwards; both. -/
import Derived.Test.YtlehknaiddidaaaDoorAddrUp
namespace Go.Proofs.YtlehknaiddidaaaDoor
open Go.RowKit
set_option linter.unusedVariables false

set_option maxRecDepth 100000 in
set_option maxHeartbeats 2000000 in
theorem addrCover_down (a b x e : Nat) (w : World) (h1 : a ≤ 4294967295) (h2 : b ≤ 4294967295) (h3 : x ≤ 4294967295) (hT : Tab w) (hab : b < a) (he : a + 1 = e) :
    Calls Tryd.prog 4 #[.int .u32 (a : Int), .int .u32 (b : Int), .int .u32 (x : Int)] w fun e w' => e = .returned (.bool true) ∧ Below w.heap.size w w' := by
  have C0 := Lib.hid (fun W => cover_no 1 0 W (by omega) (by omega) (by omega))
  have C1 := Lib.hid (fun W (h : Tab W) => cover_any b a e he W (by omega) (by omega) (by omega) h)
  have HT := Lib.hid hT
  clear hT
  have q0 : decide (b < a) = true := by simp; omega
  have q0' : decide ((b : Int) < (a : Int)) = true := by simp; omega
  have hM := Mem.nil w
  go_enter Tryd.func4, Tryd.ntmps4
  go_upto_region 2 with         (first
          | (go_at_call 6; with_reducible refine (C0.out _).mono ?_; rintro r W ⟨rfl, hN⟩; replace hM := hM.kept hN; clear hN)
          | (refine at_box_ ?_; refine wpList_box_mem rfl _ _ rfl _ rfl hM ?_; clear hM; intro gb W hM; first | (simp only [List.nil_append] at hM) | (simp only [List.cons_append, List.nil_append] at hM))
          | (refine at_load_ ?_; refine at_wanted_ (by go_simp) ?_; refine wpList_loadf_mem (by go_simp) _ _ rfl (by kernel_rfl) 0 _ _ _ _ _ hM rfl rfl rfl ?_)
          | (refine at_store_ ?_; refine wpList_store1_mem rfl _ _ _ rfl 0 _ _ _ _ _ hM rfl rfl (by first | ((conv => lhs; whnf); done) | ((conv => lhs; whnf); rfl)) (by rfl) (by rfl) (by kernel_rfl) rfl ?_; clear hM; intro W hM; simp only [List.set_cons_succ, List.set_cons_zero] at hM))
  go_upto_region 7 with         (first
          | (go_at_call 6; refine (C1.out _ (HT.out.kept hM.b)).mono ?_; rintro r W ⟨v, l, rfl, hN, hC⟩; replace hM := hM.join hN; simp only [List.nil_append] at hM; clear hN)
          | (refine at_box_ ?_; refine wpList_box_mem rfl _ _ rfl _ rfl hM ?_; clear hM; intro gb W hM; first | (simp only [List.nil_append] at hM) | (simp only [List.cons_append, List.nil_append] at hM))
          | (refine at_load_ ?_; refine at_wanted_ (by go_simp) ?_; refine wpList_loadf_mem (by go_simp) _ _ rfl (by kernel_rfl) 0 _ _ _ _ _ hM rfl rfl rfl ?_)
          | (refine at_store_ ?_; refine wpList_store1_mem rfl _ _ _ rfl 0 _ _ _ _ _ hM rfl rfl (by first | ((conv => lhs; whnf); done) | ((conv => lhs; whnf); rfl)) (by rfl) (by rfl) (by kernel_rfl) rfl ?_; clear hM; intro W hM; simp only [List.set_cons_succ, List.set_cons_zero] at hM))
  have hfew := (hC.few (by omega)).1
  have hl0 := cv_len0 hC (by omega)
  obtain ⟨g, off, c, rfl, hW⟩ := (hM.row 0 rfl).pos hl0
  clear C0 C1 hW
  obtain ⟨N, hN⟩ : ∃ N, l.length = N := ⟨_, rfl⟩
  simp only [hN] at hM hl0 hfew ⊢
  have HC := Lib.hid hC
  clear hC
  have s1 : decide (62 < N) = false := by simp; omega
  have s2 : ((N : Int) == 0) = false := by simp; omega
  have s3 : (N == 0) = false := by simp; omega
  have s4 : decide ((62 : Int) < (N : Int)) = false := by simp; omega
  go_wp2_with fail
  go_loopw [11, 47] (fun vm vi wr => ∃ i : Nat, i ≤ N ∧ vi = .int .i64 (i : Int) ∧ vm = .int .i64 (cvMany x (l.take i) : Int) ∧ MemX noE w wr [rowR 2 cvC (.slice (some ⟨g, off, none⟩) N c) l]) (fun vm vi _ => N - (intOf vi).toNat)
  case atStart => exact ⟨0, by omega, rfl, rfl, hM⟩
  case round =>
    obtain ⟨i, hi, rfl, rfl, hM⟩ := hrel
    by_cases hin : i < N
    · obtain ⟨⟨ra, rn⟩, hr⟩ : ∃ r, l[i]? = some r := ⟨l[i]'(by omega), List.getElem?_eq_getElem (by omega)⟩
      obtain ⟨hok, hle⟩ := HC.out.all _ (List.mem_of_getElem? hr)
      have hok : CvOk e ra rn := hok
      have hfit := hok.fit
      have hrn : rn ≤ 32 := by
        have h5 : 2 ^ rn ≤ 2 ^ 32 := by omega
        rcases Nat.lt_or_ge 32 rn with h6 | h6
        · have := Nat.pow_lt_pow_right (show 1 < 2 by omega) h6; omega
        · exact h6
      have hmt := many_take x l i _ hr
      have hml : cvMany x (l.take i) ≤ 62 := by
        have := many_le x (l.take i)
        rw [List.length_take] at this; omega
      have h2p : 0 < 2 ^ rn := Nat.two_pow_pos rn
      have hck := cv_chk e ra rn hok hrn
      have hhs := cv_has e ra rn x hok hrn
      have K1 := Lib.hid (fun W => Check_any (ra : Int) (32 - (rn : Int)) W (by omega) (by omega) (by omega) (by omega))
      have K2 := Lib.hid (fun W => Has_any (ra : Int) (32 - (rn : Int)) (x : Int) W (by omega) (by omega) (by omega) (by omega) (by omega) (by omega))
      rw [hck] at K1
      rw [hhs] at K2
      clear hck hhs
      generalize cvMany x (l.take i) = mi at *
      have HMT := Lib.hid hmt
      have HOK := Lib.hid hok
      clear hmt hok
      simp only at HMT
      by_cases h0 : i = 0
      · subst h0
        by_cases hx : ra ≤ x ∧ x < ra + 2 ^ rn
        · rw [if_pos hx] at HMT
          rw [decide_eq_true hx] at K2
          clear hx
          go_wp2_with (first
            | (go_at_call 7; go_must (refine (K1.out _).mono ?_; rintro e W ⟨rfl, hb⟩; replace hM := hM.kept hb; clear hb))
            | (go_at_call 8; go_must (refine (K2.out _).mono ?_; rintro e W ⟨rfl, hb⟩; replace hM := hM.kept hb; clear hb))
            | (refine at_load_ (T := 28) ?_; refine wpList_load_row (f := cvC) rfl _ _ rfl 0 _ _ hM rfl hr rfl cvC_len _ Tryd.underlying28 rfl sz_Prefix ?_)
            | (refine at_box_ ?_; refine wpList_box_mem rfl _ _ rfl _ rfl hM ?_; clear hM; intro gb W hM; first | (simp only [List.nil_append] at hM) | (simp only [List.cons_append, List.nil_append] at hM))
            | (refine at_alloc_ (T := 28) ?_; refine wpList_alloc_mem rfl 28 rfl _ zv_Prefix _ rfl hM ?_; clear hM; intro gb W hM; first | (simp only [List.nil_append] at hM) | (simp only [List.cons_append, List.nil_append] at hM))
            | (refine at_load_ (T := 28) ?_; refine at_wanted_ (by go_simp) ?_; first | (refine wpList_loadg_mem (by go_simp) 28 _ rfl 0 _ _ _ hM rfl rfl _ Tryd.underlying28 rfl sz_Prefix ?_) | (refine wpList_loadg_mem (by go_simp) 28 _ rfl 1 _ _ _ hM rfl rfl _ Tryd.underlying28 rfl sz_Prefix ?_) | (refine wpList_loadg_mem (by go_simp) 28 _ rfl 2 _ _ _ hM rfl rfl _ Tryd.underlying28 rfl sz_Prefix ?_))
            | (refine at_store_ (T := 28) ?_; first | (refine wpList_store_mem rfl 28 _ _ rfl 0 _ _ _ _ hM rfl rfl rfl rfl sz_Prefix rfl ?_; clear hM; intro W hM; simp only [List.set_cons_zero] at hM) | (refine wpList_store_mem rfl 28 _ _ rfl 1 _ _ _ _ hM rfl rfl rfl rfl sz_Prefix rfl ?_; clear hM; intro W hM; simp only [List.set_cons_succ, List.set_cons_zero] at hM) | (refine wpList_store_mem rfl 28 _ _ rfl 2 _ _ _ _ hM rfl rfl rfl rfl sz_Prefix rfl ?_; clear hM; intro W hM; simp only [List.set_cons_succ, List.set_cons_zero] at hM))
            | (refine at_load_ ?_; refine at_wanted_ (by go_simp) ?_; first | (refine wpList_loadf_mem (by go_simp) _ _ rfl (by kernel_rfl) 0 _ _ _ _ _ hM rfl rfl rfl ?_) | (refine wpList_loadf_mem (by go_simp) _ _ rfl (by kernel_rfl) 1 _ _ _ _ _ hM rfl rfl rfl ?_) | (refine wpList_loadf_mem (by go_simp) _ _ rfl (by kernel_rfl) 2 _ _ _ _ _ hM rfl rfl rfl ?_))
            | (refine at_store_ ?_; first | (refine wpList_store1_mem rfl _ _ _ rfl 0 _ _ _ _ _ hM rfl rfl (by first | ((conv => lhs; whnf); done) | ((conv => lhs; whnf); rfl)) (by rfl) (by rfl) (by kernel_rfl) rfl ?_; clear hM; intro W hM; simp only [cvC, List.set_cons_succ, List.set_cons_zero] at hM) | (refine wpList_store1_mem rfl _ _ _ rfl 1 _ _ _ _ _ hM rfl rfl (by first | ((conv => lhs; whnf); done) | ((conv => lhs; whnf); rfl)) (by rfl) (by rfl) (by kernel_rfl) rfl ?_; clear hM; intro W hM; simp only [cvC, List.set_cons_succ, List.set_cons_zero] at hM) | (refine wpList_store1_mem rfl _ _ _ rfl 2 _ _ _ _ _ hM rfl rfl (by first | ((conv => lhs; whnf); done) | ((conv => lhs; whnf); rfl)) (by rfl) (by rfl) (by kernel_rfl) rfl ?_; clear hM; intro W hM; simp only [cvC, List.set_cons_succ, List.set_cons_zero] at hM)))
          go_roundw
          case rel => exact ⟨1, by omega, by go_num, congrArg (Value.int .i64) (by first | (rw [HMT.out]; omega) | (rw [show (1 : Nat) = 0 + 1 from rfl, HMT.out]; omega)), hM.take_ 1⟩
          case measure => simp [intOf]; omega
        · rw [if_neg hx] at HMT
          rw [decide_eq_false hx] at K2
          clear hx
          go_wp2_with (first
            | (go_at_call 7; go_must (refine (K1.out _).mono ?_; rintro e W ⟨rfl, hb⟩; replace hM := hM.kept hb; clear hb))
            | (go_at_call 8; go_must (refine (K2.out _).mono ?_; rintro e W ⟨rfl, hb⟩; replace hM := hM.kept hb; clear hb))
            | (refine at_load_ (T := 28) ?_; refine wpList_load_row (f := cvC) rfl _ _ rfl 0 _ _ hM rfl hr rfl cvC_len _ Tryd.underlying28 rfl sz_Prefix ?_)
            | (refine at_box_ ?_; refine wpList_box_mem rfl _ _ rfl _ rfl hM ?_; clear hM; intro gb W hM; first | (simp only [List.nil_append] at hM) | (simp only [List.cons_append, List.nil_append] at hM))
            | (refine at_alloc_ (T := 28) ?_; refine wpList_alloc_mem rfl 28 rfl _ zv_Prefix _ rfl hM ?_; clear hM; intro gb W hM; first | (simp only [List.nil_append] at hM) | (simp only [List.cons_append, List.nil_append] at hM))
            | (refine at_load_ (T := 28) ?_; refine at_wanted_ (by go_simp) ?_; first | (refine wpList_loadg_mem (by go_simp) 28 _ rfl 0 _ _ _ hM rfl rfl _ Tryd.underlying28 rfl sz_Prefix ?_) | (refine wpList_loadg_mem (by go_simp) 28 _ rfl 1 _ _ _ hM rfl rfl _ Tryd.underlying28 rfl sz_Prefix ?_) | (refine wpList_loadg_mem (by go_simp) 28 _ rfl 2 _ _ _ hM rfl rfl _ Tryd.underlying28 rfl sz_Prefix ?_))
            | (refine at_store_ (T := 28) ?_; first | (refine wpList_store_mem rfl 28 _ _ rfl 0 _ _ _ _ hM rfl rfl rfl rfl sz_Prefix rfl ?_; clear hM; intro W hM; simp only [List.set_cons_zero] at hM) | (refine wpList_store_mem rfl 28 _ _ rfl 1 _ _ _ _ hM rfl rfl rfl rfl sz_Prefix rfl ?_; clear hM; intro W hM; simp only [List.set_cons_succ, List.set_cons_zero] at hM) | (refine wpList_store_mem rfl 28 _ _ rfl 2 _ _ _ _ hM rfl rfl rfl rfl sz_Prefix rfl ?_; clear hM; intro W hM; simp only [List.set_cons_succ, List.set_cons_zero] at hM))
            | (refine at_load_ ?_; refine at_wanted_ (by go_simp) ?_; first | (refine wpList_loadf_mem (by go_simp) _ _ rfl (by kernel_rfl) 0 _ _ _ _ _ hM rfl rfl rfl ?_) | (refine wpList_loadf_mem (by go_simp) _ _ rfl (by kernel_rfl) 1 _ _ _ _ _ hM rfl rfl rfl ?_) | (refine wpList_loadf_mem (by go_simp) _ _ rfl (by kernel_rfl) 2 _ _ _ _ _ hM rfl rfl rfl ?_))
            | (refine at_store_ ?_; first | (refine wpList_store1_mem rfl _ _ _ rfl 0 _ _ _ _ _ hM rfl rfl (by first | ((conv => lhs; whnf); done) | ((conv => lhs; whnf); rfl)) (by rfl) (by rfl) (by kernel_rfl) rfl ?_; clear hM; intro W hM; simp only [cvC, List.set_cons_succ, List.set_cons_zero] at hM) | (refine wpList_store1_mem rfl _ _ _ rfl 1 _ _ _ _ _ hM rfl rfl (by first | ((conv => lhs; whnf); done) | ((conv => lhs; whnf); rfl)) (by rfl) (by rfl) (by kernel_rfl) rfl ?_; clear hM; intro W hM; simp only [cvC, List.set_cons_succ, List.set_cons_zero] at hM) | (refine wpList_store1_mem rfl _ _ _ rfl 2 _ _ _ _ _ hM rfl rfl (by first | ((conv => lhs; whnf); done) | ((conv => lhs; whnf); rfl)) (by rfl) (by rfl) (by kernel_rfl) rfl ?_; clear hM; intro W hM; simp only [cvC, List.set_cons_succ, List.set_cons_zero] at hM)))
          go_roundw
          case rel => exact ⟨1, by omega, by go_num, congrArg (Value.int .i64) (by first | (rw [HMT.out]; omega) | (rw [show (1 : Nat) = 0 + 1 from rfl, HMT.out]; omega)), hM.take_ 1⟩
          case measure => simp [intOf]; omega
      · obtain ⟨j, rfl⟩ : ∃ j, i = j + 1 := ⟨i - 1, by omega⟩
        obtain ⟨⟨qa, qn⟩, hr2⟩ : ∃ r, l[j]? = some r := ⟨l[j]'(by omega), List.getElem?_eq_getElem (by omega)⟩
        obtain ⟨hp1, hp2⟩ := HC.out.pair.2 j _ _ hr2 hr
        have hp1 : qa < ra := hp1
        have hp2 : ¬ (qn = rn ∧ qa % (2 * 2 ^ rn) = 0) := hp2
        obtain ⟨hokq, _⟩ := HC.out.all _ (List.mem_of_getElem? hr2)
        have hokq : CvOk e qa qn := hokq
        have hqn32 : qn ≤ 32 := by
          have h4 := hokq.fit
          have h5 : 2 ^ qn ≤ 2 ^ 32 := by omega
          rcases Nat.lt_or_ge 32 qn with h6 | h6
          · have := Nat.pow_lt_pow_right (show 1 < 2 by omega) h6; omega
          · exact h6
        clear hokq
        have u1 : decide (ra ≤ qa) = false := by simp; omega
        have u2 : decide ((ra : Int) ≤ (qa : Int)) = false := by simp; omega
        by_cases hx : ra ≤ x ∧ x < ra + 2 ^ rn
        · rw [if_pos hx] at HMT
          rw [decide_eq_true hx] at K2
          clear hx
          by_cases hqn : qn = rn
          · subst hqn
            have hp3 : qa % (2 * 2 ^ qn) ≠ 0 := fun h => hp2 ⟨rfl, h⟩
            generalize hzz : 2 ^ qn = z at *
            have u5 : (((qa : Int) % (2 * (z : Int))) == 0) = false := by
                have h7 : ((qa % (2 * z) : Nat) : Int) ≠ 0 := by intro h8; exact hp3 (Int.ofNat.inj h8)
                rw [Int.natCast_emod, Int.natCast_mul] at h7
                simpa using h7
            have u6' : ((qa % (2 * z)) == 0) = false := by simpa using hp3
            have hsh : IntKind.u64.wrap ((2 : Int) ^ (32 - (32 - qn))) = (z : Int) := by rw [show 32 - (32 - qn) = qn by omega, show ((2 : Int) ^ qn) = ((2 ^ qn : Nat) : Int) by simp, hzz, IntKind.wrap_u64]; omega
            go_upto_region 18 with         (first
          | (go_at_call 7; go_must (refine (K1.out _).mono ?_; rintro e W ⟨rfl, hb⟩; replace hM := hM.kept hb; clear hb))
          | (go_at_call 8; go_must (refine (K2.out _).mono ?_; rintro e W ⟨rfl, hb⟩; replace hM := hM.kept hb; clear hb))
          | (refine at_load_ (T := 28) ?_; refine wpList_load_row (f := cvC) rfl _ _ rfl 0 _ _ hM rfl hr rfl cvC_len _ Tryd.underlying28 rfl sz_Prefix ?_)
          | (refine at_box_ ?_; refine wpList_box_mem rfl _ _ rfl _ rfl hM ?_; clear hM; intro gb W hM; first | (simp only [List.nil_append] at hM) | (simp only [List.cons_append, List.nil_append] at hM))
          | (refine at_alloc_ (T := 28) ?_; refine wpList_alloc_mem rfl 28 rfl _ zv_Prefix _ rfl hM ?_; clear hM; intro gb W hM; first | (simp only [List.nil_append] at hM) | (simp only [List.cons_append, List.nil_append] at hM))
          | (refine at_load_ (T := 28) ?_; refine at_wanted_ (by go_simp) ?_; first | (refine wpList_loadg_mem (by go_simp) 28 _ rfl 0 _ _ _ hM rfl rfl _ Tryd.underlying28 rfl sz_Prefix ?_) | (refine wpList_loadg_mem (by go_simp) 28 _ rfl 1 _ _ _ hM rfl rfl _ Tryd.underlying28 rfl sz_Prefix ?_))
          | (refine at_store_ (T := 28) ?_; first | (refine wpList_store_mem rfl 28 _ _ rfl 0 _ _ _ _ hM rfl rfl rfl rfl sz_Prefix rfl ?_; clear hM; intro W hM; simp only [List.set_cons_zero] at hM) | (refine wpList_store_mem rfl 28 _ _ rfl 1 _ _ _ _ hM rfl rfl rfl rfl sz_Prefix rfl ?_; clear hM; intro W hM; simp only [List.set_cons_succ, List.set_cons_zero] at hM))
          | (refine at_load_ ?_; refine at_wanted_ (by go_simp) ?_; first | (refine wpList_loadf_mem (by go_simp) _ _ rfl (by kernel_rfl) 0 _ _ _ _ _ hM rfl rfl rfl ?_) | (refine wpList_loadf_mem (by go_simp) _ _ rfl (by kernel_rfl) 1 _ _ _ _ _ hM rfl rfl rfl ?_))
          | (refine at_store_ ?_; first | (refine wpList_store1_mem rfl _ _ _ rfl 0 _ _ _ _ _ hM rfl rfl (by first | ((conv => lhs; whnf); done) | ((conv => lhs; whnf); rfl)) (by rfl) (by rfl) (by kernel_rfl) rfl ?_; clear hM; intro W hM; simp only [cvC, List.set_cons_succ, List.set_cons_zero] at hM) | (refine wpList_store1_mem rfl _ _ _ rfl 1 _ _ _ _ _ hM rfl rfl (by first | ((conv => lhs; whnf); done) | ((conv => lhs; whnf); rfl)) (by rfl) (by rfl) (by kernel_rfl) rfl ?_; clear hM; intro W hM; simp only [cvC, List.set_cons_succ, List.set_cons_zero] at hM)))
            go_upto_region 19 with         (first
          | (refine at_load_ (T := 28) ?_; refine wpList_load_row (f := cvC) rfl _ _ rfl 0 _ _ hM rfl hr2 rfl cvC_len _ Tryd.underlying28 rfl sz_Prefix ?_)
          | (refine at_box_ ?_; refine wpList_box_mem rfl _ _ rfl _ rfl hM ?_; clear hM; intro gb W hM; first | (simp only [List.nil_append] at hM) | (simp only [List.cons_append, List.nil_append] at hM))
          | (refine at_alloc_ (T := 28) ?_; refine wpList_alloc_mem rfl 28 rfl _ zv_Prefix _ rfl hM ?_; clear hM; intro gb W hM; first | (simp only [List.nil_append] at hM) | (simp only [List.cons_append, List.nil_append] at hM))
          | (refine at_load_ (T := 28) ?_; refine at_wanted_ (by go_simp) ?_; first | (refine wpList_loadg_mem (by go_simp) 28 _ rfl 0 _ _ _ hM rfl rfl _ Tryd.underlying28 rfl sz_Prefix ?_) | (refine wpList_loadg_mem (by go_simp) 28 _ rfl 1 _ _ _ hM rfl rfl _ Tryd.underlying28 rfl sz_Prefix ?_) | (refine wpList_loadg_mem (by go_simp) 28 _ rfl 2 _ _ _ hM rfl rfl _ Tryd.underlying28 rfl sz_Prefix ?_))
          | (refine at_store_ (T := 28) ?_; first | (refine wpList_store_mem rfl 28 _ _ rfl 0 _ _ _ _ hM rfl rfl rfl rfl sz_Prefix rfl ?_; clear hM; intro W hM; simp only [List.set_cons_zero] at hM) | (refine wpList_store_mem rfl 28 _ _ rfl 1 _ _ _ _ hM rfl rfl rfl rfl sz_Prefix rfl ?_; clear hM; intro W hM; simp only [List.set_cons_succ, List.set_cons_zero] at hM) | (refine wpList_store_mem rfl 28 _ _ rfl 2 _ _ _ _ hM rfl rfl rfl rfl sz_Prefix rfl ?_; clear hM; intro W hM; simp only [List.set_cons_succ, List.set_cons_zero] at hM)))
            go_upto_region 20 with         (first
          | (refine at_box_ ?_; refine wpList_box_mem rfl _ _ rfl _ rfl hM ?_; clear hM; intro gb W hM; first | (simp only [List.nil_append] at hM) | (simp only [List.cons_append, List.nil_append] at hM))
          | (refine at_load_ ?_; refine at_wanted_ (by go_simp) ?_; first | (refine wpList_loadf_mem (by go_simp) _ _ rfl (by kernel_rfl) 0 _ _ _ _ _ hM rfl rfl rfl ?_) | (refine wpList_loadf_mem (by go_simp) _ _ rfl (by kernel_rfl) 1 _ _ _ _ _ hM rfl rfl rfl ?_) | (refine wpList_loadf_mem (by go_simp) _ _ rfl (by kernel_rfl) 2 _ _ _ _ _ hM rfl rfl rfl ?_))
          | (refine at_store_ ?_; first | (refine wpList_store1_mem rfl _ _ _ rfl 0 _ _ _ _ _ hM rfl rfl (by first | ((conv => lhs; whnf); done) | ((conv => lhs; whnf); rfl)) (by rfl) (by rfl) (by kernel_rfl) rfl ?_; clear hM; intro W hM; simp only [List.set_cons_succ, List.set_cons_zero] at hM) | (refine wpList_store1_mem rfl _ _ _ rfl 1 _ _ _ _ _ hM rfl rfl (by first | ((conv => lhs; whnf); done) | ((conv => lhs; whnf); rfl)) (by rfl) (by rfl) (by kernel_rfl) rfl ?_; clear hM; intro W hM; simp only [List.set_cons_succ, List.set_cons_zero] at hM) | (refine wpList_store1_mem rfl _ _ _ rfl 2 _ _ _ _ _ hM rfl rfl (by first | ((conv => lhs; whnf); done) | ((conv => lhs; whnf); rfl)) (by rfl) (by rfl) (by kernel_rfl) rfl ?_; clear hM; intro W hM; simp only [List.set_cons_succ, List.set_cons_zero] at hM)))
            simp only [hsh]
            have hcp := hM.cells 1 rfl
            have hcq := hM.cells 2 rfl
            simp only [cvC] at hcp hcq
            go_wp2_with fail
            go_roundw
            case rel => exact ⟨j + 1 + 1, by omega, by go_num, congrArg (Value.int .i64) (by first | (rw [HMT.out]; omega) | (rw [show (1 : Nat) = 0 + 1 from rfl, HMT.out]; omega)), hM.take_ 1⟩
            case measure => simp [intOf]; omega
          · have u3 : (((32 : Int) - (qn : Int)) == 32 - (rn : Int)) = false := by simp; omega
            generalize hzz : 2 ^ rn = z at *
            have hsh : IntKind.u64.wrap ((2 : Int) ^ (32 - (32 - rn))) = (z : Int) := by rw [show 32 - (32 - rn) = rn by omega, show ((2 : Int) ^ rn) = ((2 ^ rn : Nat) : Int) by simp, hzz, IntKind.wrap_u64]; omega
            go_upto_region 18 with         (first
          | (go_at_call 7; go_must (refine (K1.out _).mono ?_; rintro e W ⟨rfl, hb⟩; replace hM := hM.kept hb; clear hb))
          | (go_at_call 8; go_must (refine (K2.out _).mono ?_; rintro e W ⟨rfl, hb⟩; replace hM := hM.kept hb; clear hb))
          | (refine at_load_ (T := 28) ?_; refine wpList_load_row (f := cvC) rfl _ _ rfl 0 _ _ hM rfl hr rfl cvC_len _ Tryd.underlying28 rfl sz_Prefix ?_)
          | (refine at_box_ ?_; refine wpList_box_mem rfl _ _ rfl _ rfl hM ?_; clear hM; intro gb W hM; first | (simp only [List.nil_append] at hM) | (simp only [List.cons_append, List.nil_append] at hM))
          | (refine at_alloc_ (T := 28) ?_; refine wpList_alloc_mem rfl 28 rfl _ zv_Prefix _ rfl hM ?_; clear hM; intro gb W hM; first | (simp only [List.nil_append] at hM) | (simp only [List.cons_append, List.nil_append] at hM))
          | (refine at_load_ (T := 28) ?_; refine at_wanted_ (by go_simp) ?_; first | (refine wpList_loadg_mem (by go_simp) 28 _ rfl 0 _ _ _ hM rfl rfl _ Tryd.underlying28 rfl sz_Prefix ?_) | (refine wpList_loadg_mem (by go_simp) 28 _ rfl 1 _ _ _ hM rfl rfl _ Tryd.underlying28 rfl sz_Prefix ?_))
          | (refine at_store_ (T := 28) ?_; first | (refine wpList_store_mem rfl 28 _ _ rfl 0 _ _ _ _ hM rfl rfl rfl rfl sz_Prefix rfl ?_; clear hM; intro W hM; simp only [List.set_cons_zero] at hM) | (refine wpList_store_mem rfl 28 _ _ rfl 1 _ _ _ _ hM rfl rfl rfl rfl sz_Prefix rfl ?_; clear hM; intro W hM; simp only [List.set_cons_succ, List.set_cons_zero] at hM))
          | (refine at_load_ ?_; refine at_wanted_ (by go_simp) ?_; first | (refine wpList_loadf_mem (by go_simp) _ _ rfl (by kernel_rfl) 0 _ _ _ _ _ hM rfl rfl rfl ?_) | (refine wpList_loadf_mem (by go_simp) _ _ rfl (by kernel_rfl) 1 _ _ _ _ _ hM rfl rfl rfl ?_))
          | (refine at_store_ ?_; first | (refine wpList_store1_mem rfl _ _ _ rfl 0 _ _ _ _ _ hM rfl rfl (by first | ((conv => lhs; whnf); done) | ((conv => lhs; whnf); rfl)) (by rfl) (by rfl) (by kernel_rfl) rfl ?_; clear hM; intro W hM; simp only [cvC, List.set_cons_succ, List.set_cons_zero] at hM) | (refine wpList_store1_mem rfl _ _ _ rfl 1 _ _ _ _ _ hM rfl rfl (by first | ((conv => lhs; whnf); done) | ((conv => lhs; whnf); rfl)) (by rfl) (by rfl) (by kernel_rfl) rfl ?_; clear hM; intro W hM; simp only [cvC, List.set_cons_succ, List.set_cons_zero] at hM)))
            go_upto_region 19 with         (first
          | (refine at_load_ (T := 28) ?_; refine wpList_load_row (f := cvC) rfl _ _ rfl 0 _ _ hM rfl hr2 rfl cvC_len _ Tryd.underlying28 rfl sz_Prefix ?_)
          | (refine at_box_ ?_; refine wpList_box_mem rfl _ _ rfl _ rfl hM ?_; clear hM; intro gb W hM; first | (simp only [List.nil_append] at hM) | (simp only [List.cons_append, List.nil_append] at hM))
          | (refine at_alloc_ (T := 28) ?_; refine wpList_alloc_mem rfl 28 rfl _ zv_Prefix _ rfl hM ?_; clear hM; intro gb W hM; first | (simp only [List.nil_append] at hM) | (simp only [List.cons_append, List.nil_append] at hM))
          | (refine at_load_ (T := 28) ?_; refine at_wanted_ (by go_simp) ?_; first | (refine wpList_loadg_mem (by go_simp) 28 _ rfl 0 _ _ _ hM rfl rfl _ Tryd.underlying28 rfl sz_Prefix ?_) | (refine wpList_loadg_mem (by go_simp) 28 _ rfl 1 _ _ _ hM rfl rfl _ Tryd.underlying28 rfl sz_Prefix ?_) | (refine wpList_loadg_mem (by go_simp) 28 _ rfl 2 _ _ _ hM rfl rfl _ Tryd.underlying28 rfl sz_Prefix ?_))
          | (refine at_store_ (T := 28) ?_; first | (refine wpList_store_mem rfl 28 _ _ rfl 0 _ _ _ _ hM rfl rfl rfl rfl sz_Prefix rfl ?_; clear hM; intro W hM; simp only [List.set_cons_zero] at hM) | (refine wpList_store_mem rfl 28 _ _ rfl 1 _ _ _ _ hM rfl rfl rfl rfl sz_Prefix rfl ?_; clear hM; intro W hM; simp only [List.set_cons_succ, List.set_cons_zero] at hM) | (refine wpList_store_mem rfl 28 _ _ rfl 2 _ _ _ _ hM rfl rfl rfl rfl sz_Prefix rfl ?_; clear hM; intro W hM; simp only [List.set_cons_succ, List.set_cons_zero] at hM)))
            go_upto_region 20 with         (first
          | (refine at_box_ ?_; refine wpList_box_mem rfl _ _ rfl _ rfl hM ?_; clear hM; intro gb W hM; first | (simp only [List.nil_append] at hM) | (simp only [List.cons_append, List.nil_append] at hM))
          | (refine at_load_ ?_; refine at_wanted_ (by go_simp) ?_; first | (refine wpList_loadf_mem (by go_simp) _ _ rfl (by kernel_rfl) 0 _ _ _ _ _ hM rfl rfl rfl ?_) | (refine wpList_loadf_mem (by go_simp) _ _ rfl (by kernel_rfl) 1 _ _ _ _ _ hM rfl rfl rfl ?_) | (refine wpList_loadf_mem (by go_simp) _ _ rfl (by kernel_rfl) 2 _ _ _ _ _ hM rfl rfl rfl ?_))
          | (refine at_store_ ?_; first | (refine wpList_store1_mem rfl _ _ _ rfl 0 _ _ _ _ _ hM rfl rfl (by first | ((conv => lhs; whnf); done) | ((conv => lhs; whnf); rfl)) (by rfl) (by rfl) (by kernel_rfl) rfl ?_; clear hM; intro W hM; simp only [List.set_cons_succ, List.set_cons_zero] at hM) | (refine wpList_store1_mem rfl _ _ _ rfl 1 _ _ _ _ _ hM rfl rfl (by first | ((conv => lhs; whnf); done) | ((conv => lhs; whnf); rfl)) (by rfl) (by rfl) (by kernel_rfl) rfl ?_; clear hM; intro W hM; simp only [List.set_cons_succ, List.set_cons_zero] at hM) | (refine wpList_store1_mem rfl _ _ _ rfl 2 _ _ _ _ _ hM rfl rfl (by first | ((conv => lhs; whnf); done) | ((conv => lhs; whnf); rfl)) (by rfl) (by rfl) (by kernel_rfl) rfl ?_; clear hM; intro W hM; simp only [List.set_cons_succ, List.set_cons_zero] at hM)))
            simp only [hsh]
            have hcp := hM.cells 1 rfl
            have hcq := hM.cells 2 rfl
            simp only [cvC] at hcp hcq
            go_wp2_with fail
            go_roundw
            case rel => exact ⟨j + 1 + 1, by omega, by go_num, congrArg (Value.int .i64) (by first | (rw [HMT.out]; omega) | (rw [show (1 : Nat) = 0 + 1 from rfl, HMT.out]; omega)), hM.take_ 1⟩
            case measure => simp [intOf]; omega
        · rw [if_neg hx] at HMT
          rw [decide_eq_false hx] at K2
          clear hx
          by_cases hqn : qn = rn
          · subst hqn
            have hp3 : qa % (2 * 2 ^ qn) ≠ 0 := fun h => hp2 ⟨rfl, h⟩
            generalize hzz : 2 ^ qn = z at *
            have u5 : (((qa : Int) % (2 * (z : Int))) == 0) = false := by
                have h7 : ((qa % (2 * z) : Nat) : Int) ≠ 0 := by intro h8; exact hp3 (Int.ofNat.inj h8)
                rw [Int.natCast_emod, Int.natCast_mul] at h7
                simpa using h7
            have u6' : ((qa % (2 * z)) == 0) = false := by simpa using hp3
            have hsh : IntKind.u64.wrap ((2 : Int) ^ (32 - (32 - qn))) = (z : Int) := by rw [show 32 - (32 - qn) = qn by omega, show ((2 : Int) ^ qn) = ((2 ^ qn : Nat) : Int) by simp, hzz, IntKind.wrap_u64]; omega
            go_upto_region 18 with         (first
          | (go_at_call 7; go_must (refine (K1.out _).mono ?_; rintro e W ⟨rfl, hb⟩; replace hM := hM.kept hb; clear hb))
          | (go_at_call 8; go_must (refine (K2.out _).mono ?_; rintro e W ⟨rfl, hb⟩; replace hM := hM.kept hb; clear hb))
          | (refine at_load_ (T := 28) ?_; refine wpList_load_row (f := cvC) rfl _ _ rfl 0 _ _ hM rfl hr rfl cvC_len _ Tryd.underlying28 rfl sz_Prefix ?_)
          | (refine at_box_ ?_; refine wpList_box_mem rfl _ _ rfl _ rfl hM ?_; clear hM; intro gb W hM; first | (simp only [List.nil_append] at hM) | (simp only [List.cons_append, List.nil_append] at hM))
          | (refine at_alloc_ (T := 28) ?_; refine wpList_alloc_mem rfl 28 rfl _ zv_Prefix _ rfl hM ?_; clear hM; intro gb W hM; first | (simp only [List.nil_append] at hM) | (simp only [List.cons_append, List.nil_append] at hM))
          | (refine at_load_ (T := 28) ?_; refine at_wanted_ (by go_simp) ?_; first | (refine wpList_loadg_mem (by go_simp) 28 _ rfl 0 _ _ _ hM rfl rfl _ Tryd.underlying28 rfl sz_Prefix ?_) | (refine wpList_loadg_mem (by go_simp) 28 _ rfl 1 _ _ _ hM rfl rfl _ Tryd.underlying28 rfl sz_Prefix ?_))
          | (refine at_store_ (T := 28) ?_; first | (refine wpList_store_mem rfl 28 _ _ rfl 0 _ _ _ _ hM rfl rfl rfl rfl sz_Prefix rfl ?_; clear hM; intro W hM; simp only [List.set_cons_zero] at hM) | (refine wpList_store_mem rfl 28 _ _ rfl 1 _ _ _ _ hM rfl rfl rfl rfl sz_Prefix rfl ?_; clear hM; intro W hM; simp only [List.set_cons_succ, List.set_cons_zero] at hM))
          | (refine at_load_ ?_; refine at_wanted_ (by go_simp) ?_; first | (refine wpList_loadf_mem (by go_simp) _ _ rfl (by kernel_rfl) 0 _ _ _ _ _ hM rfl rfl rfl ?_) | (refine wpList_loadf_mem (by go_simp) _ _ rfl (by kernel_rfl) 1 _ _ _ _ _ hM rfl rfl rfl ?_))
          | (refine at_store_ ?_; first | (refine wpList_store1_mem rfl _ _ _ rfl 0 _ _ _ _ _ hM rfl rfl (by first | ((conv => lhs; whnf); done) | ((conv => lhs; whnf); rfl)) (by rfl) (by rfl) (by kernel_rfl) rfl ?_; clear hM; intro W hM; simp only [cvC, List.set_cons_succ, List.set_cons_zero] at hM) | (refine wpList_store1_mem rfl _ _ _ rfl 1 _ _ _ _ _ hM rfl rfl (by first | ((conv => lhs; whnf); done) | ((conv => lhs; whnf); rfl)) (by rfl) (by rfl) (by kernel_rfl) rfl ?_; clear hM; intro W hM; simp only [cvC, List.set_cons_succ, List.set_cons_zero] at hM)))
            go_upto_region 19 with         (first
          | (refine at_load_ (T := 28) ?_; refine wpList_load_row (f := cvC) rfl _ _ rfl 0 _ _ hM rfl hr2 rfl cvC_len _ Tryd.underlying28 rfl sz_Prefix ?_)
          | (refine at_box_ ?_; refine wpList_box_mem rfl _ _ rfl _ rfl hM ?_; clear hM; intro gb W hM; first | (simp only [List.nil_append] at hM) | (simp only [List.cons_append, List.nil_append] at hM))
          | (refine at_alloc_ (T := 28) ?_; refine wpList_alloc_mem rfl 28 rfl _ zv_Prefix _ rfl hM ?_; clear hM; intro gb W hM; first | (simp only [List.nil_append] at hM) | (simp only [List.cons_append, List.nil_append] at hM))
          | (refine at_load_ (T := 28) ?_; refine at_wanted_ (by go_simp) ?_; first | (refine wpList_loadg_mem (by go_simp) 28 _ rfl 0 _ _ _ hM rfl rfl _ Tryd.underlying28 rfl sz_Prefix ?_) | (refine wpList_loadg_mem (by go_simp) 28 _ rfl 1 _ _ _ hM rfl rfl _ Tryd.underlying28 rfl sz_Prefix ?_) | (refine wpList_loadg_mem (by go_simp) 28 _ rfl 2 _ _ _ hM rfl rfl _ Tryd.underlying28 rfl sz_Prefix ?_))
          | (refine at_store_ (T := 28) ?_; first | (refine wpList_store_mem rfl 28 _ _ rfl 0 _ _ _ _ hM rfl rfl rfl rfl sz_Prefix rfl ?_; clear hM; intro W hM; simp only [List.set_cons_zero] at hM) | (refine wpList_store_mem rfl 28 _ _ rfl 1 _ _ _ _ hM rfl rfl rfl rfl sz_Prefix rfl ?_; clear hM; intro W hM; simp only [List.set_cons_succ, List.set_cons_zero] at hM) | (refine wpList_store_mem rfl 28 _ _ rfl 2 _ _ _ _ hM rfl rfl rfl rfl sz_Prefix rfl ?_; clear hM; intro W hM; simp only [List.set_cons_succ, List.set_cons_zero] at hM)))
            go_upto_region 20 with         (first
          | (refine at_box_ ?_; refine wpList_box_mem rfl _ _ rfl _ rfl hM ?_; clear hM; intro gb W hM; first | (simp only [List.nil_append] at hM) | (simp only [List.cons_append, List.nil_append] at hM))
          | (refine at_load_ ?_; refine at_wanted_ (by go_simp) ?_; first | (refine wpList_loadf_mem (by go_simp) _ _ rfl (by kernel_rfl) 0 _ _ _ _ _ hM rfl rfl rfl ?_) | (refine wpList_loadf_mem (by go_simp) _ _ rfl (by kernel_rfl) 1 _ _ _ _ _ hM rfl rfl rfl ?_) | (refine wpList_loadf_mem (by go_simp) _ _ rfl (by kernel_rfl) 2 _ _ _ _ _ hM rfl rfl rfl ?_))
          | (refine at_store_ ?_; first | (refine wpList_store1_mem rfl _ _ _ rfl 0 _ _ _ _ _ hM rfl rfl (by first | ((conv => lhs; whnf); done) | ((conv => lhs; whnf); rfl)) (by rfl) (by rfl) (by kernel_rfl) rfl ?_; clear hM; intro W hM; simp only [List.set_cons_succ, List.set_cons_zero] at hM) | (refine wpList_store1_mem rfl _ _ _ rfl 1 _ _ _ _ _ hM rfl rfl (by first | ((conv => lhs; whnf); done) | ((conv => lhs; whnf); rfl)) (by rfl) (by rfl) (by kernel_rfl) rfl ?_; clear hM; intro W hM; simp only [List.set_cons_succ, List.set_cons_zero] at hM) | (refine wpList_store1_mem rfl _ _ _ rfl 2 _ _ _ _ _ hM rfl rfl (by first | ((conv => lhs; whnf); done) | ((conv => lhs; whnf); rfl)) (by rfl) (by rfl) (by kernel_rfl) rfl ?_; clear hM; intro W hM; simp only [List.set_cons_succ, List.set_cons_zero] at hM)))
            simp only [hsh]
            have hcp := hM.cells 1 rfl
            have hcq := hM.cells 2 rfl
            simp only [cvC] at hcp hcq
            go_wp2_with fail
            go_roundw
            case rel => exact ⟨j + 1 + 1, by omega, by go_num, congrArg (Value.int .i64) (by first | (rw [HMT.out]; omega) | (rw [show (1 : Nat) = 0 + 1 from rfl, HMT.out]; omega)), hM.take_ 1⟩
            case measure => simp [intOf]; omega
          · have u3 : (((32 : Int) - (qn : Int)) == 32 - (rn : Int)) = false := by simp; omega
            generalize hzz : 2 ^ rn = z at *
            have hsh : IntKind.u64.wrap ((2 : Int) ^ (32 - (32 - rn))) = (z : Int) := by rw [show 32 - (32 - rn) = rn by omega, show ((2 : Int) ^ rn) = ((2 ^ rn : Nat) : Int) by simp, hzz, IntKind.wrap_u64]; omega
            go_upto_region 18 with         (first
          | (go_at_call 7; go_must (refine (K1.out _).mono ?_; rintro e W ⟨rfl, hb⟩; replace hM := hM.kept hb; clear hb))
          | (go_at_call 8; go_must (refine (K2.out _).mono ?_; rintro e W ⟨rfl, hb⟩; replace hM := hM.kept hb; clear hb))
          | (refine at_load_ (T := 28) ?_; refine wpList_load_row (f := cvC) rfl _ _ rfl 0 _ _ hM rfl hr rfl cvC_len _ Tryd.underlying28 rfl sz_Prefix ?_)
          | (refine at_box_ ?_; refine wpList_box_mem rfl _ _ rfl _ rfl hM ?_; clear hM; intro gb W hM; first | (simp only [List.nil_append] at hM) | (simp only [List.cons_append, List.nil_append] at hM))
          | (refine at_alloc_ (T := 28) ?_; refine wpList_alloc_mem rfl 28 rfl _ zv_Prefix _ rfl hM ?_; clear hM; intro gb W hM; first | (simp only [List.nil_append] at hM) | (simp only [List.cons_append, List.nil_append] at hM))
          | (refine at_load_ (T := 28) ?_; refine at_wanted_ (by go_simp) ?_; first | (refine wpList_loadg_mem (by go_simp) 28 _ rfl 0 _ _ _ hM rfl rfl _ Tryd.underlying28 rfl sz_Prefix ?_) | (refine wpList_loadg_mem (by go_simp) 28 _ rfl 1 _ _ _ hM rfl rfl _ Tryd.underlying28 rfl sz_Prefix ?_))
          | (refine at_store_ (T := 28) ?_; first | (refine wpList_store_mem rfl 28 _ _ rfl 0 _ _ _ _ hM rfl rfl rfl rfl sz_Prefix rfl ?_; clear hM; intro W hM; simp only [List.set_cons_zero] at hM) | (refine wpList_store_mem rfl 28 _ _ rfl 1 _ _ _ _ hM rfl rfl rfl rfl sz_Prefix rfl ?_; clear hM; intro W hM; simp only [List.set_cons_succ, List.set_cons_zero] at hM))
          | (refine at_load_ ?_; refine at_wanted_ (by go_simp) ?_; first | (refine wpList_loadf_mem (by go_simp) _ _ rfl (by kernel_rfl) 0 _ _ _ _ _ hM rfl rfl rfl ?_) | (refine wpList_loadf_mem (by go_simp) _ _ rfl (by kernel_rfl) 1 _ _ _ _ _ hM rfl rfl rfl ?_))
          | (refine at_store_ ?_; first | (refine wpList_store1_mem rfl _ _ _ rfl 0 _ _ _ _ _ hM rfl rfl (by first | ((conv => lhs; whnf); done) | ((conv => lhs; whnf); rfl)) (by rfl) (by rfl) (by kernel_rfl) rfl ?_; clear hM; intro W hM; simp only [cvC, List.set_cons_succ, List.set_cons_zero] at hM) | (refine wpList_store1_mem rfl _ _ _ rfl 1 _ _ _ _ _ hM rfl rfl (by first | ((conv => lhs; whnf); done) | ((conv => lhs; whnf); rfl)) (by rfl) (by rfl) (by kernel_rfl) rfl ?_; clear hM; intro W hM; simp only [cvC, List.set_cons_succ, List.set_cons_zero] at hM)))
            go_upto_region 19 with         (first
          | (refine at_load_ (T := 28) ?_; refine wpList_load_row (f := cvC) rfl _ _ rfl 0 _ _ hM rfl hr2 rfl cvC_len _ Tryd.underlying28 rfl sz_Prefix ?_)
          | (refine at_box_ ?_; refine wpList_box_mem rfl _ _ rfl _ rfl hM ?_; clear hM; intro gb W hM; first | (simp only [List.nil_append] at hM) | (simp only [List.cons_append, List.nil_append] at hM))
          | (refine at_alloc_ (T := 28) ?_; refine wpList_alloc_mem rfl 28 rfl _ zv_Prefix _ rfl hM ?_; clear hM; intro gb W hM; first | (simp only [List.nil_append] at hM) | (simp only [List.cons_append, List.nil_append] at hM))
          | (refine at_load_ (T := 28) ?_; refine at_wanted_ (by go_simp) ?_; first | (refine wpList_loadg_mem (by go_simp) 28 _ rfl 0 _ _ _ hM rfl rfl _ Tryd.underlying28 rfl sz_Prefix ?_) | (refine wpList_loadg_mem (by go_simp) 28 _ rfl 1 _ _ _ hM rfl rfl _ Tryd.underlying28 rfl sz_Prefix ?_) | (refine wpList_loadg_mem (by go_simp) 28 _ rfl 2 _ _ _ hM rfl rfl _ Tryd.underlying28 rfl sz_Prefix ?_))
          | (refine at_store_ (T := 28) ?_; first | (refine wpList_store_mem rfl 28 _ _ rfl 0 _ _ _ _ hM rfl rfl rfl rfl sz_Prefix rfl ?_; clear hM; intro W hM; simp only [List.set_cons_zero] at hM) | (refine wpList_store_mem rfl 28 _ _ rfl 1 _ _ _ _ hM rfl rfl rfl rfl sz_Prefix rfl ?_; clear hM; intro W hM; simp only [List.set_cons_succ, List.set_cons_zero] at hM) | (refine wpList_store_mem rfl 28 _ _ rfl 2 _ _ _ _ hM rfl rfl rfl rfl sz_Prefix rfl ?_; clear hM; intro W hM; simp only [List.set_cons_succ, List.set_cons_zero] at hM)))
            go_upto_region 20 with         (first
          | (refine at_box_ ?_; refine wpList_box_mem rfl _ _ rfl _ rfl hM ?_; clear hM; intro gb W hM; first | (simp only [List.nil_append] at hM) | (simp only [List.cons_append, List.nil_append] at hM))
          | (refine at_load_ ?_; refine at_wanted_ (by go_simp) ?_; first | (refine wpList_loadf_mem (by go_simp) _ _ rfl (by kernel_rfl) 0 _ _ _ _ _ hM rfl rfl rfl ?_) | (refine wpList_loadf_mem (by go_simp) _ _ rfl (by kernel_rfl) 1 _ _ _ _ _ hM rfl rfl rfl ?_) | (refine wpList_loadf_mem (by go_simp) _ _ rfl (by kernel_rfl) 2 _ _ _ _ _ hM rfl rfl rfl ?_))
          | (refine at_store_ ?_; first | (refine wpList_store1_mem rfl _ _ _ rfl 0 _ _ _ _ _ hM rfl rfl (by first | ((conv => lhs; whnf); done) | ((conv => lhs; whnf); rfl)) (by rfl) (by rfl) (by kernel_rfl) rfl ?_; clear hM; intro W hM; simp only [List.set_cons_succ, List.set_cons_zero] at hM) | (refine wpList_store1_mem rfl _ _ _ rfl 1 _ _ _ _ _ hM rfl rfl (by first | ((conv => lhs; whnf); done) | ((conv => lhs; whnf); rfl)) (by rfl) (by rfl) (by kernel_rfl) rfl ?_; clear hM; intro W hM; simp only [List.set_cons_succ, List.set_cons_zero] at hM) | (refine wpList_store1_mem rfl _ _ _ rfl 2 _ _ _ _ _ hM rfl rfl (by first | ((conv => lhs; whnf); done) | ((conv => lhs; whnf); rfl)) (by rfl) (by rfl) (by kernel_rfl) rfl ?_; clear hM; intro W hM; simp only [List.set_cons_succ, List.set_cons_zero] at hM)))
            simp only [hsh]
            have hcp := hM.cells 1 rfl
            have hcq := hM.cells 2 rfl
            simp only [cvC] at hcp hcq
            go_wp2_with fail
            go_roundw
            case rel => exact ⟨j + 1 + 1, by omega, by go_num, congrArg (Value.int .i64) (by first | (rw [HMT.out]; omega) | (rw [show (1 : Nat) = 0 + 1 from rfl, HMT.out]; omega)), hM.take_ 1⟩
            case measure => simp [intOf]; omega
    · obtain rfl : i = N := by omega
      have hmz := HC.out.many x
      rw [List.take_of_length_le (by omega)] at *
      generalize cvMany x l = mm at *
      have HCC := HC
      clear HC
      by_cases v1 : b ≤ x
      · have w1 : decide (b ≤ x) = true := by simpa using v1
        by_cases v2 : x ≤ a
        · have w2 : decide (x ≤ a) = true := by simpa using v2
          rw [if_pos (by omega)] at hmz
          subst hmz
          go_wp2_with (first
            | (refine at_box_ ?_; refine wpList_box_mem rfl _ _ rfl _ rfl hM ?_; clear hM; intro gb W hM; first | (simp only [List.nil_append] at hM) | (simp only [List.cons_append, List.nil_append] at hM))
            | (refine at_load_ ?_; refine at_wanted_ (by go_simp) ?_; refine wpList_loadf_mem (by go_simp) _ _ rfl (by kernel_rfl) 0 _ _ _ _ _ hM rfl rfl rfl ?_)
            | (refine at_store_ ?_; refine wpList_store1_mem rfl _ _ _ rfl 0 _ _ _ _ _ hM rfl rfl (by first | ((conv => lhs; whnf); done) | ((conv => lhs; whnf); rfl)) (by rfl) (by rfl) (by kernel_rfl) rfl ?_; clear hM; intro W hM; simp only [List.set_cons_succ, List.set_cons_zero] at hM))
          go_ret
          exact ⟨rfl, hM.b⟩
        · have w2 : decide (x ≤ a) = false := by simpa using v2
          rw [if_neg (by omega)] at hmz
          subst hmz
          go_wp2_with (first
            | (refine at_box_ ?_; refine wpList_box_mem rfl _ _ rfl _ rfl hM ?_; clear hM; intro gb W hM; first | (simp only [List.nil_append] at hM) | (simp only [List.cons_append, List.nil_append] at hM))
            | (refine at_load_ ?_; refine at_wanted_ (by go_simp) ?_; refine wpList_loadf_mem (by go_simp) _ _ rfl (by kernel_rfl) 0 _ _ _ _ _ hM rfl rfl rfl ?_)
            | (refine at_store_ ?_; refine wpList_store1_mem rfl _ _ _ rfl 0 _ _ _ _ _ hM rfl rfl (by first | ((conv => lhs; whnf); done) | ((conv => lhs; whnf); rfl)) (by rfl) (by rfl) (by kernel_rfl) rfl ?_; clear hM; intro W hM; simp only [List.set_cons_succ, List.set_cons_zero] at hM))
          go_ret
          exact ⟨rfl, hM.b⟩
      · have w1 : decide (b ≤ x) = false := by simpa using v1
        rw [if_neg (by omega)] at hmz
        subst hmz
        go_wp2_with (first
          | (refine at_box_ ?_; refine wpList_box_mem rfl _ _ rfl _ rfl hM ?_; clear hM; intro gb W hM; first | (simp only [List.nil_append] at hM) | (simp only [List.cons_append, List.nil_append] at hM))
          | (refine at_load_ ?_; refine at_wanted_ (by go_simp) ?_; refine wpList_loadf_mem (by go_simp) _ _ rfl (by kernel_rfl) 0 _ _ _ _ _ hM rfl rfl rfl ?_)
          | (refine at_store_ ?_; refine wpList_store1_mem rfl _ _ _ rfl 0 _ _ _ _ _ hM rfl rfl (by first | ((conv => lhs; whnf); done) | ((conv => lhs; whnf); rfl)) (by rfl) (by rfl) (by kernel_rfl) rfl ?_; clear hM; intro W hM; simp only [List.set_cons_succ, List.set_cons_zero] at hM))
        go_ret
        exact ⟨rfl, hM.b⟩
theorem w_AddrCover (a0 : Int) (a1 : Int) (a2 : Int) (w : World) (hT : Tab w) (ha0 : 0 ≤ a0) (ha0' : a0 ≤ 4294967295) (ha1 : 0 ≤ a1) (ha1' : a1 ≤ 4294967295) (ha2 : 0 ≤ a2) (ha2' : a2 ≤ 4294967295) :
    Calls Tryd.prog 4 #[.int .u32 a0, .int .u32 a1, .int .u32 a2] w fun e w' => e = .returned (.bool true) ∧ Below w.heap.size w w' := by
  obtain ⟨a, rfl⟩ := Int.eq_ofNat_of_zero_le ha0
  obtain ⟨b, rfl⟩ := Int.eq_ofNat_of_zero_le ha1
  obtain ⟨x, rfl⟩ := Int.eq_ofNat_of_zero_le ha2
  by_cases h : a ≤ b
  · exact addrCover_up a b x (b + 1) w (by omega) (by omega) (by omega) hT h rfl
  · exact addrCover_down a b x (a + 1) w (by omega) (by omega) (by omega) hT (by omega) rfl
end Go.Proofs.YtlehknaiddidaaaDoor
