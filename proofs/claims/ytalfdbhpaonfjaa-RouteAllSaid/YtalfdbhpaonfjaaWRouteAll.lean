/- The walk of RouteAll: it returns true. Written by my genrtw.py. -/
import Derived.Test.YtalfdbhpaonfjaaRtJ
import Derived.Test.YtalfdbhpaonfjaaKit
import Derived.Test.YtalfdbhpaonfjaaDat
import Derived.Deep.CutBlock
namespace Go.Proofs.Ytalfdbhpaonfjaa
open Go.RowKit Go.Lib
set_option linter.unusedVariables false
set_option linter.unusedSimpArgs false

set_option maxRecDepth 100000 in
set_option maxHeartbeats 8000000 in
theorem w_RouteAll (A0 : Option Addr) (n0 c0 : Nat) (css0 : Nat → List Value) (a1 : Int) (w : World) (hR0 : Rows_ w A0 n0 ksStep css0) (hl0 : n0 ≤ 140737488351232) (ha1 : 0 ≤ a1) (ha1' : a1 ≤ 4294967295) :
    Calls Try.prog 7 #[.slice A0 n0 c0, .int .u32 a1] w fun e w' => e = .returned (.bool true) ∧ Below w.heap.size w w' := by
  obtain ⟨c, rfl⟩ := Int.eq_ofNat_of_zero_le ha1
  have HRT := Lib.hid (routes_any A0 n0 c0 css0 w hR0 hl0)
  go_enter Try.func7, Try.ntmps7
  go_upto_region 2 with (first | (go_at_call 13; refine HRT.out.mono ?_; rintro e W ⟨g, m, t, rfl, hM, hT⟩; dsimp only))
  clear HRT hR0
  have HT := Lib.hid hT
  have HF := Lib.hid (fun W h => Find_any g m t c W h hT (by omega))
  clear hT
  obtain ⟨o, ho⟩ : ∃ o, bst t.get c 33 = o := ⟨_, rfl⟩
  rw [ho] at HF
  have HO := Lib.hid ho
  clear ho
  replace hM : Mem w W ([] ++ t.res) := hM
  go_upto_region 5 with         (first
          | go_skip
          | (go_at_call 14; refine (HF.out _ (front_hand [] hM)).mono ?_; rintro e W ⟨rfl, hb⟩; replace hM := hM.kept hb; clear hb; dsimp only)
          | ((with_reducible refine at_alloc_ (T := 25) ?_); refine wpList_alloc_mem rfl 25 rfl _ zv_Prefix _ rfl hM ?_; clear hM; intro gN W hM; replace hM := last_front hM)
          | ((with_reducible refine at_store_ (T := 25) ?_); refine wpList_store_mem rfl 25 _ _ rfl 0 _ _ _ _ hM rfl rfl rfl rfl sz_Prefix rfl ?_; clear hM; intro W hM; simp only [List.set_cons_zero] at hM)
          | ((with_reducible refine at_box_ ?_); refine wpList_box_mem rfl _ _ rfl _ rfl hM ?_; clear hM; intro gb W hM; first | (simp only [List.nil_append] at hM) | (simp only [List.cons_append, List.nil_append] at hM)))
  obtain ⟨gr, hgr⟩ : ∃ z, z = gN := ⟨_, rfl⟩
  subst hgr
  replace hM : Mem w W (atR gr 25 [.int .u32 (oA c o), .int .i64 (oN o)] :: t.res) := hM
  clear HF
  go_upto_if 23 with (fail)
  go_cut [] (fun wc => ∃ (t2 : RT) (m2 : Nat), Mem w wc t2.res ∧ Hid (Tab g t2 m2))
  case first =>
    cases o with
    | none =>
      simp only [oB, oV]
      have HK := Lib.hid (show ∃ (t2 : RT) (m2 : Nat), Mem w W t2.res ∧ Hid (Tab g t2 m2) from ⟨t, m, (show Mem w W ([_] ++ t.res) from hM).drop_, HT⟩)
      go_wp2_with fail
      go_meet
      case rel => exact HK.out
    | some z =>
      obtain ⟨k, v⟩ := z
      simp only [oB, oV, oA, oN] at hM ⊢
      have hk := (bst_lt HO.out).1
      have hnl := (bst_okP HO.out).1.2.1
      have HD := Lib.hid (fun W h => Drop_any g m t (num (path c k)) k W h HT.out (by omega) ⟨by omega, by omega⟩)
      generalize hnk : num (path c k) = nk at *
      have HNK := Lib.hid hnk
      clear hnk
      have HD2 := Lib.hid (fun W h => (HD.out W h).mono (fun e w' h2 => (by
        obtain ⟨e', t', m', he, h3, h4, h5⟩ := h2
        rw [← HNK.out] at h5
        have h6 := drop_best (by omega) HO.out h5
        rw [h6.1] at he
        exact ⟨he, t', m', h3, h4, h6.2⟩ : e = .returned (.int .i64 0) ∧ ∃ t' m', MemX (blkE t.res) W w' t'.res ∧ Tab g t' m' ∧ (bst t'.get c 33 = none ∨ ∃ j u, bst t'.get c 33 = some (j, u) ∧ j < k ∧ hasB ((num (path c j) : Nat) : Int) j ((num (path c k) : Nat) : Int) = true))))
      clear HD
      go_upto_region 8 with         (first
          | go_skip
          | (go_at_call 18; refine (HD2.out _ (front_hand [_] hM)).mono ?_; rintro e W ⟨rfl, t', m', hM6, hT', hR'⟩; replace hM := front_back [_] hM hM6; clear hM6; dsimp only)
          | ((with_reducible refine at_box_ ?_); refine wpList_box_mem rfl _ _ rfl _ rfl hM ?_; clear hM; intro gb W hM; first | (simp only [List.nil_append] at hM) | (simp only [List.cons_append, List.nil_append] at hM))
          | ((with_reducible refine at_alloc_ (T := 25) ?_); refine wpList_alloc_mem rfl 25 rfl _ zv_Prefix _ rfl hM ?_; clear hM; intro gb W hM; first | (simp only [List.nil_append] at hM) | (simp only [List.cons_append, List.nil_append] at hM))
          | ((with_reducible refine at_load_ (T := 25) ?_); refine at_wanted_ (by rfl) ?_; refine wpList_loadg_mem (by go_simp) 25 _ rfl 0 _ _ _ hM rfl rfl _ Try.underlying25 rfl sz_Prefix ?_)
          | ((with_reducible refine at_store_ (T := 25) ?_); refine wpList_store_mem rfl 25 _ _ rfl 0 _ _ _ _ hM rfl rfl rfl rfl sz_Prefix rfl ?_; clear hM; intro W hM; simp only [List.set_cons_zero] at hM))
      replace hM : Mem w W (atR gr 25 [.int .u32 nk, .int .i64 k] :: t'.res) := hM
      have HT' := Lib.hid hT'
      have HF2 := Lib.hid (fun W h => Find_any g m' t' c W h hT' (by omega))
      have HC := Lib.hid hR'
      clear hT' hR'
      rcases HC.out with h2 | ⟨j, u, h2, hjk, hhas⟩
      · rw [h2] at HF2
        simp only [oB, oV, oA, oN] at HF2
        clear h2
        go_upto_region 9 with         (first
          | go_skip
          | (go_at_call 14; refine (HF2.out _ (front_hand [_] hM)).mono ?_; rintro e W ⟨rfl, hb⟩; replace hM := hM.kept hb; clear hb; dsimp only)
          | ((with_reducible refine at_alloc_ (T := 25) ?_); refine wpList_alloc_mem rfl 25 rfl _ zv_Prefix _ rfl hM ?_; clear hM; intro gN W hM; replace hM := last_front hM)
          | ((with_reducible refine at_store_ (T := 25) ?_); refine wpList_store_mem rfl 25 _ _ rfl 0 _ _ _ _ hM rfl rfl rfl rfl sz_Prefix rfl ?_; clear hM; intro W hM; simp only [List.set_cons_zero] at hM)
          | ((with_reducible refine at_box_ ?_); refine wpList_box_mem rfl _ _ rfl _ rfl hM ?_; clear hM; intro gb W hM; first | (simp only [List.nil_append] at hM) | (simp only [List.cons_append, List.nil_append] at hM)))
        replace hM : Mem w W ([atR gN 25 [.int .u32 0, .int .i64 0], atR gr 25 [.int .u32 nk, .int .i64 k]] ++ t'.res) := hM
        have HK := Lib.hid (show ∃ (t2 : RT) (m2 : Nat), Mem w W t2.res ∧ Hid (Tab g t2 m2) from ⟨t', m', hM.drop_, HT'⟩)
        go_wp2_with fail
        go_meet
        case rel => exact HK.out
      · rw [h2] at HF2
        simp only [oB, oV, oA, oN] at HF2
        have hjl := (bst_okP h2).1.2.1
        rw [HNK.out] at hhas
        generalize num (path c j) = nj at *
        have HH := Lib.hid (fun W => Has_any nj j nk W (by omega) (by omega) (by omega) (by omega) (by omega) (by omega))
        rw [hhas] at HH
        clear h2 hhas
        have hlt : decide (k ≤ j) = false := by simp; omega
        go_upto_region 9 with         (first
          | go_skip
          | (go_at_call 14; refine (HF2.out _ (front_hand [_] hM)).mono ?_; rintro e W ⟨rfl, hb⟩; replace hM := hM.kept hb; clear hb; dsimp only)
          | ((with_reducible refine at_alloc_ (T := 25) ?_); refine wpList_alloc_mem rfl 25 rfl _ zv_Prefix _ rfl hM ?_; clear hM; intro gN W hM; replace hM := last_front hM)
          | ((with_reducible refine at_store_ (T := 25) ?_); refine wpList_store_mem rfl 25 _ _ rfl 0 _ _ _ _ hM rfl rfl rfl rfl sz_Prefix rfl ?_; clear hM; intro W hM; simp only [List.set_cons_zero] at hM)
          | ((with_reducible refine at_box_ ?_); refine wpList_box_mem rfl _ _ rfl _ rfl hM ?_; clear hM; intro gb W hM; first | (simp only [List.nil_append] at hM) | (simp only [List.cons_append, List.nil_append] at hM)))
        obtain ⟨gq, hgq⟩ : ∃ z, z = gN := ⟨_, rfl⟩
        subst hgq
        replace hM : Mem w W (atR gq 25 [.int .u32 nj, .int .i64 j] :: atR gr 25 [.int .u32 nk, .int .i64 k] :: t'.res) := hM
        go_wp2_with (first
          | go_skip
          | (go_at_call 15; go_must (refine (HH.out _).mono ?_; rintro e W ⟨rfl, hb⟩; replace hM := hM.kept hb; clear hb))
          | ((with_reducible refine at_box_ ?_); refine wpList_box_mem rfl _ _ rfl _ rfl hM ?_; clear hM; intro gb W hM; first | (simp only [List.nil_append] at hM) | (simp only [List.cons_append, List.nil_append] at hM))
          | ((with_reducible refine at_alloc_ (T := 25) ?_); refine wpList_alloc_mem rfl 25 rfl _ zv_Prefix _ rfl hM ?_; clear hM; intro gb W hM; first | (simp only [List.nil_append] at hM) | (simp only [List.cons_append, List.nil_append] at hM))
          | ((with_reducible refine at_load_ (T := 25) ?_); refine at_wanted_ (by rfl) ?_; first | (refine wpList_loadg_mem (by go_simp) 25 _ rfl 0 _ _ _ hM rfl rfl _ Try.underlying25 rfl sz_Prefix ?_) | (refine wpList_loadg_mem (by go_simp) 25 _ rfl 1 _ _ _ hM rfl rfl _ Try.underlying25 rfl sz_Prefix ?_))
          | ((with_reducible refine at_store_ (T := 25) ?_); first | (refine wpList_store_mem rfl 25 _ _ rfl 0 _ _ _ _ hM rfl rfl rfl rfl sz_Prefix rfl ?_; clear hM; intro W hM; simp only [List.set_cons_zero] at hM) | (refine wpList_store_mem rfl 25 _ _ rfl 1 _ _ _ _ hM rfl rfl rfl rfl sz_Prefix rfl ?_; clear hM; intro W hM; simp only [List.set_cons_succ, List.set_cons_zero] at hM))
          | ((with_reducible refine at_load_ ?_); refine at_wanted_ (by rfl) ?_; first | (refine wpList_loadf_mem (by go_simp) _ _ rfl (by kernel_rfl) 0 _ _ _ _ _ hM rfl rfl (by first | rfl | assumption) ?_) | (refine wpList_loadf_mem (by go_simp) _ _ rfl (by kernel_rfl) 1 _ _ _ _ _ hM rfl rfl (by first | rfl | assumption) ?_))
          | ((with_reducible refine at_store_ ?_); first | (refine wpList_store1_mem rfl _ _ _ rfl 0 _ _ _ _ _ hM rfl rfl (by first | ((conv => lhs; whnf); done) | ((conv => lhs; whnf); rfl)) (by rfl) (by rfl) (by kernel_rfl) rfl ?_; clear hM; intro W hM; simp only [List.set_cons_succ, List.set_cons_zero] at hM) | (refine wpList_store1_mem rfl _ _ _ rfl 1 _ _ _ _ _ hM rfl rfl (by first | ((conv => lhs; whnf); done) | ((conv => lhs; whnf); rfl)) (by rfl) (by rfl) (by kernel_rfl) rfl ?_; clear hM; intro W hM; simp only [List.set_cons_succ, List.set_cons_zero] at hM)))
        have HK := Lib.hid (show ∃ (t2 : RT) (m2 : Nat), Mem w _ t2.res ∧ Hid (Tab g t2 m2) from ⟨t', m', (show Mem w _ ([_, _] ++ t'.res) from hM).drop_, HT'⟩)
        go_meet
        case rel => exact HK.out
  case rest =>
    obtain ⟨t2, m2, hM2, HT2⟩ := hcut
    clear hM HT HO
    have hM := hM2
    clear hM2
    have HD := Lib.hid (fun W h => Drop_any g m2 t2 0 0 W h HT2.out (by omega) ⟨by omega, by omega⟩)
    replace hM : Mem w wc ([] ++ t2.res) := hM
    go_upto_region 12 with (first | go_skip | (go_at_call 18; refine (HD.out _ (front_hand [] hM)).mono ?_; rintro e W ⟨e1, t3, m3, rfl, hM6, hT3, hR3⟩; replace hM := front_back [] hM hM6; clear hM6; dsimp only))
    have HR3 := Lib.hid hR3
    have HA := Lib.hid (fun W h => Add_any g m3 t3 0 0 9 W h hT3 (by omega) ⟨by omega, by omega⟩)
    clear hT3 hR3 HD
    have HA2 := Lib.hid (fun W h => (HA.out W h).mono (fun e w' h2 => (by
      obtain ⟨e', t', m', he, h3, h4, h5⟩ := h2
      have h6 := add_all (a := c) HR3.out h5
      exact ⟨e', t', m', he, h3, h4, h6⟩ : ∃ e' t' m', e = .returned (.int .i64 e') ∧ MemX (blkE t3.res) W w' t'.res ∧ Tab g t' m' ∧ ((e' = 0 ∧ ∃ z, bst t'.get c 33 = some z) ∨ (e' = 9 ∧ m' = 64)))))
    clear HA
    go_wp2_with fail
    refine (HA2.out _ (front_hand [] hM)).mono ?_
    rintro e W ⟨e2, t4, m4, rfl, hM6, hT4, hR4⟩
    replace hM := front_back [] hM hM6
    clear hM6 HA2
    dsimp only
    rcases hR4 with ⟨rfl, ⟨k, v⟩, hz⟩ | ⟨rfl, rfl⟩
    · have HF4 := Lib.hid (fun W h => Find_any g m4 t4 c W h hT4 (by omega))
      rw [hz] at HF4
      simp only [oB, oV, oA, oN] at HF4
      clear hT4 hz
      go_wp2_with (first | go_skip | (go_at_call 14; refine (HF4.out _ (front_hand [] hM)).mono ?_; rintro e W ⟨rfl, hb⟩; replace hM := hM.kept hb; clear hb; dsimp only))
      go_ret
      exact ⟨rfl, hM.b⟩
    · have HL4 := Lib.hid (fun W h => All_any g 64 t4 W h hT4)
      clear hT4
      go_wp2_with (first | go_skip | (go_at_call 17; refine (HL4.out _ (front_hand [] hM)).mono ?_; rintro e W ⟨O, oc, rfl, hM6⟩; replace hM := front_back [] hM hM6; clear hM6; dsimp only))
      go_ret
      exact ⟨rfl, hM.b⟩
end Go.Proofs.Ytalfdbhpaonfjaa
