/- The walk of RouteEmpty: it returns true. Written by my genrtw.py. -/
import Derived.Test.YtalfdbhpaonfjaaRtJ
import Derived.Test.YtalfdbhpaonfjaaKit
import Derived.Test.YtalfdbhpaonfjaaDat
import Derived.Deep.CutBlock
namespace Go.Proofs.Ytalfdbhpaonfjaa
open Go.RowKit Go.Lib
set_option linter.unusedVariables false
set_option linter.unusedSimpArgs false

set_option maxRecDepth 100000 in
set_option maxHeartbeats 8000000 in
theorem w_RouteEmpty (A0 : Option Addr) (n0 c0 : Nat) (css0 : Nat → List Value) (a1 : Int) (w : World) (hR0 : Rows_ w A0 n0 ksStep css0) (hl0 : n0 ≤ 140737488351232) (ha1 : 0 ≤ a1) (ha1' : a1 ≤ 4294967295) :
    Calls Try.prog 5 #[.slice A0 n0 c0, .int .u32 a1] w fun e w' => e = .returned (.bool true) ∧ Below w.heap.size w w' := by
  obtain ⟨c, rfl⟩ := Int.eq_ofNat_of_zero_le ha1
  have HRT := Lib.hid (routes_any A0 n0 c0 css0 w hR0 hl0)
  go_enter Try.func5, Try.ntmps5
  go_upto_region 2 with (first | (go_at_call 13; refine HRT.out.mono ?_; rintro e W ⟨g, m, t, rfl, hM, hT⟩; dsimp only) | (go_at_call 20; refine (newroute_any _).mono ?_; rintro e W2 ⟨gu, rfl, hM2⟩; replace hM := hM.new_ hM2; clear hM2; dsimp only))
  clear HRT hR0
  have HT := Lib.hid hT
  obtain ⟨U, hU⟩ : ∃ U, U = (newT gu).res := ⟨_, rfl⟩
  rw [← hU] at hM
  have HU := Lib.hid hU
  obtain ⟨l, hl⟩ : ∃ l, l = t.lst [] := ⟨_, rfl⟩
  have HAL := Lib.hid (fun W h => All_any g m t W h hT)
  rw [← hl] at HAL
  have hlen : l.length = m := by rw [hl]; exact (RT.len_lst t []).trans hT.cnt
  have hm64 := hT.m64
  have HL := Lib.hid hl
  have HLN := Lib.hid hlen
  clear hl hlen hT hU
  replace hM : Mem w W2 (U ++ t.res) := hM
  go_upto_region 5 with (first | go_skip | (go_at_call 17; refine (HAL.out _ (front_hand U hM)).mono ?_; rintro e W ⟨O, oc, rfl, hM6⟩; replace hM := front_back U hM hM6; clear hM6; dsimp only))
  replace hM : Mem w W (rowR 2 cPa (.slice O m oc) l :: (U ++ t.res)) := hM.perm (by
    rw [← List.append_assoc]
    exact List.perm_append_comm)
  clear HAL
  go_loopg [24] m (fun gh i wr => ∃ (k m' : Nat) (tk : RT), gh = m - k ∧ k ≤ m ∧ i = .int .i64 k ∧ Mem w wr (rowR 2 cPa (.slice O m oc) l :: (U ++ tk.res)) ∧ Hid (Tab g tk m') ∧ Hid (∀ x, tk.get x = if x ∈ (t.lst []).take k then none else t.get x))
  case atStart => exact ⟨0, m, t, by omega, by omega, rfl, hM, HT, Lib.hid (fun x => by simp)⟩
  case round =>
    clear hM
    obtain ⟨k, m', tk, hgk, hk, rfl, hM, HTK, HG⟩ := hrel
    have HGK := Lib.hid hgk
    clear hgk
    by_cases hlt : k < m
    · obtain ⟨q, hq⟩ : ∃ q, l[k]? = some q := ⟨l[k]'(by rw [HLN.out]; exact hlt), List.getElem?_eq_getElem (by rw [HLN.out]; exact hlt)⟩
      have hqm := lst_mem HT.out (q := q) (HL.out ▸ List.mem_of_getElem? hq)
      have hWr : Win wr 0 2 (.slice O m oc) l.length (l.flatMap cPa) := hM.row (f := cPa) (rs := l) 0 rfl
      obtain ⟨gO, offO, cO, hv, hWA⟩ := hWr.pos (by rw [HLN.out]; omega)
      injection hv with hv1 hv3 hv2
      clear hv3
      subst hv1 hv2
      have hr0 := row_range (f := cPa) (size := 2) (fun _ => rfl) hWr k q hq
      have hnq := num_lt hqm.1
      have hql := hqm.1
      have HQ := Lib.hid (show (t.lst [])[k]? = some q from HL.out ▸ hq)
      clear hWr hWA hq hqm
      have HD := Lib.hid (fun W h => Drop_any g m' tk (num q) q.length W h HTK.out (by omega) ⟨by omega, by omega⟩)
      have HD2 := Lib.hid (fun W h => (HD.out W h).mono (fun e w' h2 => (by
        obtain ⟨e', t', m2, he, h3, h4, h5⟩ := h2
        have h6 := drop_next HT.out HQ.out HG.out h5
        rw [h6.1] at he
        exact ⟨he, t', m2, h3, h4, h6.2⟩ : e = .returned (.int .i64 0) ∧ ∃ (t' : RT) (m2 : Nat), MemX (blkE tk.res) W w' t'.res ∧ Tab g t' m2 ∧ ∀ x, t'.get x = if x ∈ (t.lst []).take (k + 1) then none else t.get x)))
      clear HD
      go_upto_region 7 with (first | go_skip | ((with_reducible refine at_load_ (T := 25) ?_); refine wpList_load_mid rfl 25 _ rfl gO (offO + k * 2) rfl (cPa q) _ hr0 Try.underlying25 rfl sz_Prefix ?_) | ((with_reducible refine at_alloc_ (T := 25) ?_); refine wpList_alloc_mem rfl 25 rfl _ zv_Prefix _ rfl hM ?_; clear hM hr0; intro gk W hM; replace hM := last_front hM) | ((with_reducible refine at_store_ (T := 25) ?_); refine wpList_store_mem rfl 25 _ _ rfl 0 _ _ _ _ hM rfl rfl rfl rfl sz_Prefix rfl ?_; clear hM; intro W hM; simp only [List.set_cons_zero] at hM))
      replace hM : Mem w W (atR gk 25 [.int .u32 (num q), .int .i64 q.length] :: rowR 2 cPa (.slice (some ⟨gO, offO, none⟩) m oc) l :: (U ++ tk.res)) := hM
      go_wp2_with (first
        | go_skip
        | (go_at_call 18; refine (HD2.out _ (front_hand (atR gk 25 [.int .u32 (num q), .int .i64 q.length] :: rowR 2 cPa (.slice (some ⟨gO, offO, none⟩) m oc) l :: U) hM)).mono ?_; rintro e W ⟨rfl, t', m2, hM6, hT', hG'⟩; replace hM := front_back (atR gk 25 [.int .u32 (num q), .int .i64 q.length] :: rowR 2 cPa (.slice (some ⟨gO, offO, none⟩) m oc) l :: U) hM hM6; clear hM6; dsimp only)
        | ((with_reducible refine at_box_ ?_); refine wpList_box_mem rfl _ _ rfl _ rfl hM ?_; clear hM; intro gb W hM; first | (simp only [List.nil_append] at hM) | (simp only [List.cons_append, List.nil_append] at hM))
        | ((with_reducible refine at_alloc_ (T := 25) ?_); refine wpList_alloc_mem rfl 25 rfl _ zv_Prefix _ rfl hM ?_; clear hM; intro gb W hM; first | (simp only [List.nil_append] at hM) | (simp only [List.cons_append, List.nil_append] at hM))
        | ((with_reducible refine at_load_ (T := 25) ?_); refine at_wanted_ (by rfl) ?_; refine wpList_loadg_mem (by go_simp) 25 _ rfl 0 _ _ _ hM rfl rfl _ Try.underlying25 rfl sz_Prefix ?_)
        | ((with_reducible refine at_store_ (T := 25) ?_); refine wpList_store_mem rfl 25 _ _ rfl 0 _ _ _ _ hM rfl rfl rfl rfl sz_Prefix rfl ?_; clear hM; intro W hM; simp only [List.set_cons_zero] at hM)
        | ((with_reducible refine at_load_ ?_); refine at_wanted_ (by rfl) ?_; refine wpList_loadf_mem (by go_simp) _ _ rfl (by kernel_rfl) 0 _ _ _ _ _ hM rfl rfl (by first | rfl | assumption) ?_)
        | ((with_reducible refine at_store_ ?_); refine wpList_store1_mem rfl _ _ _ rfl 0 _ _ _ _ _ hM rfl rfl (by first | ((conv => lhs; whnf); done) | ((conv => lhs; whnf); rfl)) (by rfl) (by rfl) (by kernel_rfl) rfl ?_; clear hM; intro W hM; simp only [List.set_cons_succ, List.set_cons_zero] at hM))
      have HT' := Lib.hid hT'
      have HG' := Lib.hid hG'
      replace hM : Mem w W (rowR 2 cPa (.slice (some ⟨gO, offO, none⟩) m oc) l :: (U ++ t'.res)) := (show Mem w W ([_] ++ (rowR 2 cPa (.slice (some ⟨gO, offO, none⟩) m oc) l :: (U ++ t'.res))) from hM).drop_
      clear hT' hG'
      go_roundg (m - (k + 1))
      case measure => have := HGK.out; omega
      case rel => exact ⟨k + 1, m2, t', rfl, by omega, by go_num, hM, HT', HG'⟩
    · obtain rfl : m = k := by omega
      have hG := HG.out
      rw [List.take_of_length_le (by rw [← HL.out, HLN.out]; exact Nat.le_refl _)] at hG
      obtain ⟨h0, rfl⟩ := all_gone HTK.out hG
      have hb := bst_empty c h0
      have HF := Lib.hid (fun W h => Find_any g 0 tk c W h HTK.out (by omega))
      rw [hb] at HF
      simp only [oB, oV, oA, oN] at HF
      have HAL := Lib.hid (fun W h => All_any g 0 tk W h HTK.out)
      have H0 := Lib.hid h0
      have HA := Lib.hid (fun W h => Add_any g 0 tk 0 0 1 W h HTK.out (by omega) ⟨by omega, by omega⟩)
      have HA1 := Lib.hid (fun W h => (HA.out W h).mono (fun e w' h2 => (by
        obtain ⟨e', t', m2, he, h3, h4, h5⟩ := h2
        rw [add_empty H0.out (by omega) h5] at he
        exact ⟨he, t', h3⟩ : e = .returned (.int .i64 0) ∧ ∃ (t' : RT), MemX (blkE tk.res) W w' t'.res)))
      have HB := Lib.hid (fun W h => Add_any gu 0 (newT gu) 0 0 1 W h (newT_tab gu) (by omega) ⟨by omega, by omega⟩)
      have HB1 := Lib.hid (fun W h => (HB.out W h).mono (fun e w' h2 => (by
        obtain ⟨e', t', m2, he, h3, h4, h5⟩ := h2
        rw [add_empty (newT_get gu) (by omega) h5] at he
        exact ⟨he, t', h3⟩ : e = .returned (.int .i64 0) ∧ ∃ (t' : RT), MemX (blkE (newT gu).res) W w' t'.res)))
      rw [show ((0 : Nat) : Int) = 0 from rfl] at HA1 HB1
      clear hG h0 hb HA HB HG HGK hlt
      replace hM := (show Mem w wr ([rowR 2 cPa (.slice O m oc) l] ++ (U ++ tk.res)) from hM).drop_
      go_upto_region 11 with         (first
          | go_skip
          | (go_at_call 14; refine (HF.out _ (front_hand U hM)).mono ?_; rintro e W ⟨rfl, hb⟩; replace hM := hM.kept hb; clear hb; dsimp only)
          | ((with_reducible refine at_alloc_ (T := 25) ?_); refine wpList_alloc_mem rfl 25 rfl _ zv_Prefix _ rfl hM ?_; clear hM; intro gN W hM; replace hM := last_front hM)
          | ((with_reducible refine at_store_ (T := 25) ?_); refine wpList_store_mem rfl 25 _ _ rfl 0 _ _ _ _ hM rfl rfl rfl rfl sz_Prefix rfl ?_; clear hM; intro W hM; simp only [List.set_cons_zero] at hM)
          | ((with_reducible refine at_box_ ?_); refine wpList_box_mem rfl _ _ rfl _ rfl hM ?_; clear hM; intro gb W hM; first | (simp only [List.nil_append] at hM) | (simp only [List.cons_append, List.nil_append] at hM)))
      obtain ⟨gr, hgr⟩ : ∃ z, z = gN := ⟨_, rfl⟩
      subst hgr
      replace hM : Mem w W (atR gr 25 [.int .u32 0, .int .i64 0] :: (U ++ tk.res)) := hM
      have HEQ := Lib.hid (fun W => (show (Op.equalIn 10000 25 (.agg #[.int .u32 0, .int .i64 0]) (.agg #[.int .u32 0, .int .i64 0])).run Try.prog W = .ok true W from eqT_Prefix ⟨0, 0⟩ W))
      go_wp2_with (first
        | go_skip
        | ((with_reducible refine at_eq_ (T := 25) ?_); go_loud (refine wpList_eq_mem (by go_simp) 25 _ _ _ rfl _ _ rfl rfl eg_Prefix _ (HEQ.out) ?_))
        | (go_at_call 17; refine (HAL.out _ (front_hand (_ :: U) hM)).mono ?_; rintro e W ⟨O2, oc2, rfl, hM6⟩; replace hM := keep_mid (front_back (_ :: U) hM hM6); clear hM6; dsimp only)
        | (go_at_call 16; go_loud (first | ((with_reducible refine (HA1.out _ ?_).mono ?_); (exact front_hand (_ :: U) hM); rintro e W ⟨rfl, t5, hM6⟩; replace hM := front_back (_ :: U) hM hM6; clear hM6; dsimp only; rw [HU.out] at hM; replace hM := hM.perm (List.Perm.cons _ List.perm_append_comm)) | ((with_reducible refine (HB1.out _ ?_).mono ?_); (exact front_hand (_ :: t5.res) hM); rintro e W ⟨rfl, t6, hM6⟩; replace hM := front_back (_ :: t5.res) hM hM6; clear hM6; dsimp only)))
        | ((with_reducible refine at_box_ ?_); refine wpList_box_mem rfl _ _ rfl _ rfl hM ?_; clear hM; intro gb W hM; first | (simp only [List.nil_append] at hM) | (simp only [List.cons_append, List.nil_append] at hM))
        | ((with_reducible refine at_alloc_ (T := 25) ?_); refine wpList_alloc_mem rfl 25 rfl _ zv_Prefix _ rfl hM ?_; clear hM; intro gb W hM; first | (simp only [List.nil_append] at hM) | (simp only [List.cons_append, List.nil_append] at hM))
        | ((with_reducible refine at_load_ (T := 25) ?_); refine at_wanted_ (by rfl) ?_; refine wpList_loadg_mem (by go_simp) 25 _ rfl 0 _ _ _ hM rfl rfl _ Try.underlying25 rfl sz_Prefix ?_)
        | ((with_reducible refine at_store_ (T := 25) ?_); refine wpList_store_mem rfl 25 _ _ rfl 0 _ _ _ _ hM rfl rfl rfl rfl sz_Prefix rfl ?_; clear hM; intro W hM; simp only [List.set_cons_zero] at hM)
        | ((with_reducible refine at_load_ ?_); refine at_wanted_ (by rfl) ?_; refine wpList_loadf_mem (by go_simp) _ _ rfl (by kernel_rfl) 0 _ _ _ _ _ hM rfl rfl (by first | rfl | assumption) ?_)
        | ((with_reducible refine at_store_ ?_); refine wpList_store1_mem rfl _ _ _ rfl 0 _ _ _ _ _ hM rfl rfl (by first | ((conv => lhs; whnf); done) | ((conv => lhs; whnf); rfl)) (by rfl) (by rfl) (by kernel_rfl) rfl ?_; clear hM; intro W hM; simp only [List.set_cons_succ, List.set_cons_zero] at hM))
      go_ret
      exact ⟨rfl, hM.b⟩
end Go.Proofs.Ytalfdbhpaonfjaa
