/- The walk of RouteBest: it returns true. Written by my genrtw.py. -/
import Derived.Test.YtalfdbhpaonfjaaRtJ
import Derived.Test.YtalfdbhpaonfjaaKit
import Derived.Test.YtalfdbhpaonfjaaDat
import Derived.Deep.CutBlock
namespace Go.Proofs.Ytalfdbhpaonfjaa
open Go.RowKit Go.Lib
set_option linter.unusedVariables false
set_option linter.unusedSimpArgs false


def oP (c : Nat) (o : Option (Nat × Int)) : List Bool := match o with
  | none => []
  | some (k, _) => path c k
theorem oP_a (c : Nat) (o : Option (Nat × Int)) : oA c o = num (oP c o) := by cases o <;> rfl
theorem oP_n (c : Nat) (o : Option (Nat × Int)) : oN o = (oP c o).length := by
  cases o with
  | none => rfl
  | some z => show (z.1 : Int) = ((path c z.1).length : Nat); rw [path_len]
set_option maxRecDepth 100000 in
set_option maxHeartbeats 8000000 in
theorem w_RouteBest (A0 : Option Addr) (n0 c0 : Nat) (css0 : Nat → List Value) (a1 : Int) (w : World) (hR0 : Rows_ w A0 n0 ksStep css0) (hl0 : n0 ≤ 140737488351232) (ha1 : 0 ≤ a1) (ha1' : a1 ≤ 4294967295) :
    Calls Try.prog 6 #[.slice A0 n0 c0, .int .u32 a1] w fun e w' => e = .returned (.bool true) ∧ Below w.heap.size w w' := by
  obtain ⟨c, rfl⟩ := Int.eq_ofNat_of_zero_le ha1
  have HRT := Lib.hid (routes_any A0 n0 c0 css0 w hR0 hl0)
  go_enter Try.func6, Try.ntmps6
  go_upto_region 2 with (first | (go_at_call 13; refine HRT.out.mono ?_; rintro e W ⟨g, m, t, rfl, hM, hT⟩; dsimp only))
  clear HRT hR0
  have HT := Lib.hid hT
  have HF := Lib.hid (fun W h => Find_any g m t c W h hT (by omega))
  clear hT
  obtain ⟨o, ho⟩ : ∃ o, bst t.get c 33 = o := ⟨_, rfl⟩
  rw [ho] at HF
  have HO := Lib.hid ho
  clear ho
  replace hM : Mem w W ([] ++ t.res) := hM
  go_upto_region 5 with         (first
          | go_skip
          | (go_at_call 14; refine (HF.out _ (front_hand [] hM)).mono ?_; rintro e W ⟨rfl, hb⟩; replace hM := hM.kept hb; clear hb; dsimp only)
          | ((with_reducible refine at_alloc_ (T := 25) ?_); refine wpList_alloc_mem rfl 25 rfl _ zv_Prefix _ rfl hM ?_; clear hM; intro gN W hM; replace hM := last_front hM)
          | ((with_reducible refine at_store_ (T := 25) ?_); refine wpList_store_mem rfl 25 _ _ rfl 0 _ _ _ _ hM rfl rfl rfl rfl sz_Prefix rfl ?_; clear hM; intro W hM; simp only [List.set_cons_zero] at hM)
          | ((with_reducible refine at_box_ ?_); refine wpList_box_mem rfl _ _ rfl _ rfl hM ?_; clear hM; intro gb W hM; first | (simp only [List.nil_append] at hM) | (simp only [List.cons_append, List.nil_append] at hM)))
  obtain ⟨gr, hgr⟩ : ∃ z, z = gN := ⟨_, rfl⟩
  subst hgr
  obtain ⟨pp, hpp⟩ : ∃ pp, pp = oP c o := ⟨_, rfl⟩
  replace hM : Mem w W (atR gr 25 [.int .u32 (oA c o), .int .i64 (oN o)] :: t.res) := hM
  rw [oP_a c o, oP_n c o, ← hpp] at hM
  rw [oP_a c o, oP_n c o, ← hpp]
  have HPP := Lib.hid hpp
  clear hpp HF
  obtain ⟨l, hl⟩ : ∃ l, l = t.lst [] := ⟨_, rfl⟩
  have HAL := Lib.hid (fun W h => All_any g m t W h HT.out)
  rw [← hl] at HAL
  have hlen : l.length = m := by rw [hl]; exact (RT.len_lst t []).trans HT.out.cnt
  have hm64 := HT.out.m64
  have HL := Lib.hid hl
  have HLN := Lib.hid hlen
  clear hl hlen
  replace hM : Mem w W ([_] ++ t.res) := hM
  go_upto_region 7 with (first | go_skip | (go_at_call 17; refine (HAL.out _ (front_hand [_] hM)).mono ?_; rintro e W ⟨O, oc, rfl, hM6⟩; replace hM := front_back [_] hM hM6; clear hM6; dsimp only))
  replace hM : Mem w W (rowR 2 cPa (.slice O m oc) l :: atR gr 25 [.int .u32 (num pp), .int .i64 pp.length] :: t.res) := hM.perm (by
    show ([atR gr 25 [.int .u32 (num pp), .int .i64 pp.length]] ++ (t.res ++ [rowR 2 cPa (.slice O m oc) l])).Perm _
    rw [← List.append_assoc]
    exact List.perm_append_comm)
  have hpl : pp.length ≤ 32 := by
    rw [HPP.out]
    cases o with
    | none => simp [oP]
    | some z => simp only [oP]; rw [path_len]; have := (bst_lt HO.out).1; omega
  clear HAL
  go_loopg [27, 9, 10] m (fun gh i b n wr => ∃ k : Nat, gh = m - k ∧ k ≤ m ∧ i = .int .i64 k ∧ b = .int .i64 (bestZ c (l.take k)) ∧ n = .int .i64 ((l.take k).count pp : Nat) ∧ Mem w wr (rowR 2 cPa (.slice O m oc) l :: atR gr 25 [.int .u32 (num pp), .int .i64 pp.length] :: t.res))
  case atStart => exact ⟨0, by omega, by omega, rfl, rfl, rfl, hM⟩
  case round =>
    clear hM
    obtain ⟨k, hgk, hk, rfl, rfl, rfl, hM⟩ := hrel
    have HGK := Lib.hid hgk
    clear hgk
    have hblo := bestZ_lo c (l.take k)
    have hbhi := bestZ_hi c (l.take k) (fun q hq => (lst_mem HT.out (HL.out ▸ List.mem_of_mem_take hq)).1)
    have hcnt : (l.take k).count pp ≤ 64 := Nat.le_trans List.count_le_length (by rw [List.length_take]; omega)
    by_cases hlt : k < m
    · obtain ⟨q, hq⟩ : ∃ q, l[k]? = some q := ⟨l[k]'(by rw [HLN.out]; exact hlt), List.getElem?_eq_getElem (by rw [HLN.out]; exact hlt)⟩
      have hqm := lst_mem HT.out (q := q) (HL.out ▸ List.mem_of_getElem? hq)
      have hWr : Win wr 0 2 (.slice O m oc) l.length (l.flatMap cPa) := hM.row (f := cPa) (rs := l) 0 rfl
      obtain ⟨gO, offO, cO, hv, hWA⟩ := hWr.pos (by rw [HLN.out]; omega)
      injection hv with hv1 hv3 hv2
      clear hv3
      subst hv1 hv2
      have hr0 := row_range (f := cPa) (size := 2) (fun _ => rfl) hWr k q hq
      have hsb : bestZ c (l.take (k + 1)) = if hasB ((num q : Nat) : Int) q.length c = true then mx (bestZ c (l.take k)) q.length else bestZ c (l.take k) := by
        rw [List.take_add_one, hq, Option.toList_some, bestZ_snoc]
      have hsc : (l.take (k + 1)).count pp = (l.take k).count pp + if pp = q then 1 else 0 := by
        rw [List.take_add_one, hq, Option.toList_some, List.count_append]
        by_cases e : pp = q
        · rw [e]; simp
        · rw [if_neg e, List.count_singleton]; simp [Ne.symm e]
      have hnq := num_lt hqm.1
      have hql := hqm.1
      have HH := Lib.hid (fun W => Has_any (num q) q.length c W (by omega) (by omega) (by omega) (by omega) (by omega) (by omega))
      have HQI := Lib.hid (fun (e : num pp = num q) (e2 : pp.length = q.length) => num_inj hpl e e2)
      have HSB := Lib.hid hsb
      have HSC := Lib.hid hsc
      clear hWr hWA hq hqm hsb hsc
      go_upto_region 9 with (first | go_skip | ((with_reducible refine at_load_ (T := 25) ?_); refine wpList_load_mid rfl 25 _ rfl gO (offO + k * 2) rfl (cPa q) _ hr0 Try.underlying25 rfl sz_Prefix ?_) | ((with_reducible refine at_alloc_ (T := 25) ?_); refine wpList_alloc_mem rfl 25 rfl _ zv_Prefix _ rfl hM ?_; clear hM hr0; intro gk W hM; replace hM := last_front hM) | ((with_reducible refine at_store_ (T := 25) ?_); refine wpList_store_mem rfl 25 _ _ rfl 0 _ _ _ _ hM rfl rfl rfl rfl sz_Prefix rfl ?_; clear hM; intro W hM; simp only [List.set_cons_zero] at hM))
      replace hM : Mem w W (atR gk 25 [.int .u32 (num q), .int .i64 q.length] :: rowR 2 cPa (.slice (some ⟨gO, offO, none⟩) m oc) l :: atR gr 25 [.int .u32 (num pp), .int .i64 pp.length] :: t.res) := hM
      cases hb : hasB ((num q : Nat) : Int) q.length c
      · rw [hb] at HH
        have HS2 := Lib.hid (HSB.out.trans (by rw [hb]; rfl : _ = bestZ c (l.take k)))
        clear hb
        by_cases he : pp = q
        · have HEQ := Lib.hid (fun W => (show (Op.equalIn 10000 25 (.agg (cPrefix ⟨num pp, pp.length⟩).toArray) (.agg (cPrefix ⟨num q, q.length⟩).toArray)).run Try.prog W = .ok true W from by rw [he]; exact eqT_Prefix _ W))
          have HS4 := Lib.hid (HSC.out.trans (by rw [if_pos he]))
          clear he
          go_wp2_with (first
            | go_skip
            | (go_at_call 15; go_must (refine (HH.out _).mono ?_; rintro e W ⟨rfl, hb⟩; replace hM := hM.kept hb; clear hb))
            | ((with_reducible refine at_eq_ (T := 25) ?_); go_loud (refine wpList_eq_mem (by go_simp) 25 _ _ _ rfl _ _ rfl rfl eg_Prefix _ (HEQ.out) ?_))
            | ((with_reducible refine at_box_ ?_); refine wpList_box_mem rfl _ _ rfl _ rfl hM ?_; clear hM; intro gb W hM; first | (simp only [List.nil_append] at hM) | (simp only [List.cons_append, List.nil_append] at hM))
            | ((with_reducible refine at_alloc_ (T := 25) ?_); refine wpList_alloc_mem rfl 25 rfl _ zv_Prefix _ rfl hM ?_; clear hM; intro gb W hM; first | (simp only [List.nil_append] at hM) | (simp only [List.cons_append, List.nil_append] at hM))
            | ((with_reducible refine at_load_ (T := 25) ?_); refine at_wanted_ (by rfl) ?_; first | (refine wpList_loadg_mem (by go_simp) 25 _ rfl 0 _ _ _ hM rfl rfl _ Try.underlying25 rfl sz_Prefix ?_) | (refine wpList_loadg_mem (by go_simp) 25 _ rfl 1 _ _ _ hM rfl rfl _ Try.underlying25 rfl sz_Prefix ?_) | (refine wpList_loadg_mem (by go_simp) 25 _ rfl 2 _ _ _ hM rfl rfl _ Try.underlying25 rfl sz_Prefix ?_))
            | ((with_reducible refine at_store_ (T := 25) ?_); first | (refine wpList_store_mem rfl 25 _ _ rfl 0 _ _ _ _ hM rfl rfl rfl rfl sz_Prefix rfl ?_; clear hM; intro W hM; simp only [List.set_cons_zero] at hM) | (refine wpList_store_mem rfl 25 _ _ rfl 1 _ _ _ _ hM rfl rfl rfl rfl sz_Prefix rfl ?_; clear hM; intro W hM; simp only [List.set_cons_succ, List.set_cons_zero] at hM) | (refine wpList_store_mem rfl 25 _ _ rfl 2 _ _ _ _ hM rfl rfl rfl rfl sz_Prefix rfl ?_; clear hM; intro W hM; simp only [List.set_cons_succ, List.set_cons_zero] at hM))
            | ((with_reducible refine at_load_ ?_); refine at_wanted_ (by rfl) ?_; first | (refine wpList_loadf_mem (by go_simp) _ _ rfl (by kernel_rfl) 0 _ _ _ _ _ hM rfl rfl (by first | rfl | assumption) ?_) | (refine wpList_loadf_mem (by go_simp) _ _ rfl (by kernel_rfl) 1 _ _ _ _ _ hM rfl rfl (by first | rfl | assumption) ?_) | (refine wpList_loadf_mem (by go_simp) _ _ rfl (by kernel_rfl) 2 _ _ _ _ _ hM rfl rfl (by first | rfl | assumption) ?_))
            | ((with_reducible refine at_store_ ?_); first | (refine wpList_store1_mem rfl _ _ _ rfl 0 _ _ _ _ _ hM rfl rfl (by first | ((conv => lhs; whnf); done) | ((conv => lhs; whnf); rfl)) (by rfl) (by rfl) (by kernel_rfl) rfl ?_; clear hM; intro W hM; simp only [List.set_cons_succ, List.set_cons_zero] at hM) | (refine wpList_store1_mem rfl _ _ _ rfl 1 _ _ _ _ _ hM rfl rfl (by first | ((conv => lhs; whnf); done) | ((conv => lhs; whnf); rfl)) (by rfl) (by rfl) (by kernel_rfl) rfl ?_; clear hM; intro W hM; simp only [List.set_cons_succ, List.set_cons_zero] at hM) | (refine wpList_store1_mem rfl _ _ _ rfl 2 _ _ _ _ _ hM rfl rfl (by first | ((conv => lhs; whnf); done) | ((conv => lhs; whnf); rfl)) (by rfl) (by rfl) (by kernel_rfl) rfl ?_; clear hM; intro W hM; simp only [List.set_cons_succ, List.set_cons_zero] at hM)))
          replace hM := (show Mem w _ ([_] ++ _) from hM).drop_
          go_roundg (m - (k + 1))
          case measure => have := HGK.out; omega
          case rel => exact ⟨k + 1, rfl, by omega, by go_num, by rw [HS2.out], by rw [HS4.out]; go_num, hM⟩
        · have HEQ := Lib.hid (fun W => eqF_Prefix ⟨num pp, pp.length⟩ ⟨num q, q.length⟩ (fun e => by injection e with e1 e2; exact he (HQI.out (by omega) (by omega))) W)
          have HS4 := Lib.hid (HSC.out.trans (by rw [if_neg he]))
          clear he
          go_wp2_with (first
            | go_skip
            | (go_at_call 15; go_must (refine (HH.out _).mono ?_; rintro e W ⟨rfl, hb⟩; replace hM := hM.kept hb; clear hb))
            | ((with_reducible refine at_eq_ (T := 25) ?_); go_loud (refine wpList_eq_mem (by go_simp) 25 _ _ _ rfl _ _ rfl rfl eg_Prefix _ (HEQ.out) ?_))
            | ((with_reducible refine at_box_ ?_); refine wpList_box_mem rfl _ _ rfl _ rfl hM ?_; clear hM; intro gb W hM; first | (simp only [List.nil_append] at hM) | (simp only [List.cons_append, List.nil_append] at hM))
            | ((with_reducible refine at_alloc_ (T := 25) ?_); refine wpList_alloc_mem rfl 25 rfl _ zv_Prefix _ rfl hM ?_; clear hM; intro gb W hM; first | (simp only [List.nil_append] at hM) | (simp only [List.cons_append, List.nil_append] at hM))
            | ((with_reducible refine at_load_ (T := 25) ?_); refine at_wanted_ (by rfl) ?_; first | (refine wpList_loadg_mem (by go_simp) 25 _ rfl 0 _ _ _ hM rfl rfl _ Try.underlying25 rfl sz_Prefix ?_) | (refine wpList_loadg_mem (by go_simp) 25 _ rfl 1 _ _ _ hM rfl rfl _ Try.underlying25 rfl sz_Prefix ?_) | (refine wpList_loadg_mem (by go_simp) 25 _ rfl 2 _ _ _ hM rfl rfl _ Try.underlying25 rfl sz_Prefix ?_))
            | ((with_reducible refine at_store_ (T := 25) ?_); first | (refine wpList_store_mem rfl 25 _ _ rfl 0 _ _ _ _ hM rfl rfl rfl rfl sz_Prefix rfl ?_; clear hM; intro W hM; simp only [List.set_cons_zero] at hM) | (refine wpList_store_mem rfl 25 _ _ rfl 1 _ _ _ _ hM rfl rfl rfl rfl sz_Prefix rfl ?_; clear hM; intro W hM; simp only [List.set_cons_succ, List.set_cons_zero] at hM) | (refine wpList_store_mem rfl 25 _ _ rfl 2 _ _ _ _ hM rfl rfl rfl rfl sz_Prefix rfl ?_; clear hM; intro W hM; simp only [List.set_cons_succ, List.set_cons_zero] at hM))
            | ((with_reducible refine at_load_ ?_); refine at_wanted_ (by rfl) ?_; first | (refine wpList_loadf_mem (by go_simp) _ _ rfl (by kernel_rfl) 0 _ _ _ _ _ hM rfl rfl (by first | rfl | assumption) ?_) | (refine wpList_loadf_mem (by go_simp) _ _ rfl (by kernel_rfl) 1 _ _ _ _ _ hM rfl rfl (by first | rfl | assumption) ?_) | (refine wpList_loadf_mem (by go_simp) _ _ rfl (by kernel_rfl) 2 _ _ _ _ _ hM rfl rfl (by first | rfl | assumption) ?_))
            | ((with_reducible refine at_store_ ?_); first | (refine wpList_store1_mem rfl _ _ _ rfl 0 _ _ _ _ _ hM rfl rfl (by first | ((conv => lhs; whnf); done) | ((conv => lhs; whnf); rfl)) (by rfl) (by rfl) (by kernel_rfl) rfl ?_; clear hM; intro W hM; simp only [List.set_cons_succ, List.set_cons_zero] at hM) | (refine wpList_store1_mem rfl _ _ _ rfl 1 _ _ _ _ _ hM rfl rfl (by first | ((conv => lhs; whnf); done) | ((conv => lhs; whnf); rfl)) (by rfl) (by rfl) (by kernel_rfl) rfl ?_; clear hM; intro W hM; simp only [List.set_cons_succ, List.set_cons_zero] at hM) | (refine wpList_store1_mem rfl _ _ _ rfl 2 _ _ _ _ _ hM rfl rfl (by first | ((conv => lhs; whnf); done) | ((conv => lhs; whnf); rfl)) (by rfl) (by rfl) (by kernel_rfl) rfl ?_; clear hM; intro W hM; simp only [List.set_cons_succ, List.set_cons_zero] at hM)))
          replace hM := (show Mem w _ ([_] ++ _) from hM).drop_
          go_roundg (m - (k + 1))
          case measure => have := HGK.out; omega
          case rel => exact ⟨k + 1, rfl, by omega, by go_num, by rw [HS2.out], by rw [HS4.out]; go_num, hM⟩
      · rw [hb] at HH
        have HS2 := Lib.hid (HSB.out.trans (by rw [hb]; rfl : _ = mx (bestZ c (l.take k)) q.length))
        clear hb
        obtain ⟨bz, hbz⟩ : ∃ z, z = bestZ c (l.take k) := ⟨_, rfl⟩
        rw [← hbz] at hblo hbhi HS2 ⊢
        clear hbz
        rcases Int.lt_or_le bz q.length with hmx | hmx
        · have HS3 := Lib.hid (HS2.out.trans (by unfold mx; rw [if_pos hmx]))
          by_cases he : pp = q
          · have HEQ := Lib.hid (fun W => (show (Op.equalIn 10000 25 (.agg (cPrefix ⟨num pp, pp.length⟩).toArray) (.agg (cPrefix ⟨num q, q.length⟩).toArray)).run Try.prog W = .ok true W from by rw [he]; exact eqT_Prefix _ W))
            have HS4 := Lib.hid (HSC.out.trans (by rw [if_pos he]))
            clear he
            go_wp2_with (first
              | go_skip
              | (go_at_call 15; go_must (refine (HH.out _).mono ?_; rintro e W ⟨rfl, hb⟩; replace hM := hM.kept hb; clear hb))
              | ((with_reducible refine at_eq_ (T := 25) ?_); go_loud (refine wpList_eq_mem (by go_simp) 25 _ _ _ rfl _ _ rfl rfl eg_Prefix _ (HEQ.out) ?_))
              | ((with_reducible refine at_box_ ?_); refine wpList_box_mem rfl _ _ rfl _ rfl hM ?_; clear hM; intro gb W hM; first | (simp only [List.nil_append] at hM) | (simp only [List.cons_append, List.nil_append] at hM))
              | ((with_reducible refine at_alloc_ (T := 25) ?_); refine wpList_alloc_mem rfl 25 rfl _ zv_Prefix _ rfl hM ?_; clear hM; intro gb W hM; first | (simp only [List.nil_append] at hM) | (simp only [List.cons_append, List.nil_append] at hM))
              | ((with_reducible refine at_load_ (T := 25) ?_); refine at_wanted_ (by rfl) ?_; first | (refine wpList_loadg_mem (by go_simp) 25 _ rfl 0 _ _ _ hM rfl rfl _ Try.underlying25 rfl sz_Prefix ?_) | (refine wpList_loadg_mem (by go_simp) 25 _ rfl 1 _ _ _ hM rfl rfl _ Try.underlying25 rfl sz_Prefix ?_) | (refine wpList_loadg_mem (by go_simp) 25 _ rfl 2 _ _ _ hM rfl rfl _ Try.underlying25 rfl sz_Prefix ?_))
              | ((with_reducible refine at_store_ (T := 25) ?_); first | (refine wpList_store_mem rfl 25 _ _ rfl 0 _ _ _ _ hM rfl rfl rfl rfl sz_Prefix rfl ?_; clear hM; intro W hM; simp only [List.set_cons_zero] at hM) | (refine wpList_store_mem rfl 25 _ _ rfl 1 _ _ _ _ hM rfl rfl rfl rfl sz_Prefix rfl ?_; clear hM; intro W hM; simp only [List.set_cons_succ, List.set_cons_zero] at hM) | (refine wpList_store_mem rfl 25 _ _ rfl 2 _ _ _ _ hM rfl rfl rfl rfl sz_Prefix rfl ?_; clear hM; intro W hM; simp only [List.set_cons_succ, List.set_cons_zero] at hM))
              | ((with_reducible refine at_load_ ?_); refine at_wanted_ (by rfl) ?_; first | (refine wpList_loadf_mem (by go_simp) _ _ rfl (by kernel_rfl) 0 _ _ _ _ _ hM rfl rfl (by first | rfl | assumption) ?_) | (refine wpList_loadf_mem (by go_simp) _ _ rfl (by kernel_rfl) 1 _ _ _ _ _ hM rfl rfl (by first | rfl | assumption) ?_) | (refine wpList_loadf_mem (by go_simp) _ _ rfl (by kernel_rfl) 2 _ _ _ _ _ hM rfl rfl (by first | rfl | assumption) ?_))
              | ((with_reducible refine at_store_ ?_); first | (refine wpList_store1_mem rfl _ _ _ rfl 0 _ _ _ _ _ hM rfl rfl (by first | ((conv => lhs; whnf); done) | ((conv => lhs; whnf); rfl)) (by rfl) (by rfl) (by kernel_rfl) rfl ?_; clear hM; intro W hM; simp only [List.set_cons_succ, List.set_cons_zero] at hM) | (refine wpList_store1_mem rfl _ _ _ rfl 1 _ _ _ _ _ hM rfl rfl (by first | ((conv => lhs; whnf); done) | ((conv => lhs; whnf); rfl)) (by rfl) (by rfl) (by kernel_rfl) rfl ?_; clear hM; intro W hM; simp only [List.set_cons_succ, List.set_cons_zero] at hM) | (refine wpList_store1_mem rfl _ _ _ rfl 2 _ _ _ _ _ hM rfl rfl (by first | ((conv => lhs; whnf); done) | ((conv => lhs; whnf); rfl)) (by rfl) (by rfl) (by kernel_rfl) rfl ?_; clear hM; intro W hM; simp only [List.set_cons_succ, List.set_cons_zero] at hM)))
            replace hM := (show Mem w _ ([_] ++ _) from hM).drop_
            go_roundg (m - (k + 1))
            case measure => have := HGK.out; omega
            case rel => exact ⟨k + 1, rfl, by omega, by go_num, by rw [HS3.out], by rw [HS4.out]; go_num, hM⟩
          · have HEQ := Lib.hid (fun W => eqF_Prefix ⟨num pp, pp.length⟩ ⟨num q, q.length⟩ (fun e => by injection e with e1 e2; exact he (HQI.out (by omega) (by omega))) W)
            have HS4 := Lib.hid (HSC.out.trans (by rw [if_neg he]))
            clear he
            go_wp2_with (first
              | go_skip
              | (go_at_call 15; go_must (refine (HH.out _).mono ?_; rintro e W ⟨rfl, hb⟩; replace hM := hM.kept hb; clear hb))
              | ((with_reducible refine at_eq_ (T := 25) ?_); go_loud (refine wpList_eq_mem (by go_simp) 25 _ _ _ rfl _ _ rfl rfl eg_Prefix _ (HEQ.out) ?_))
              | ((with_reducible refine at_box_ ?_); refine wpList_box_mem rfl _ _ rfl _ rfl hM ?_; clear hM; intro gb W hM; first | (simp only [List.nil_append] at hM) | (simp only [List.cons_append, List.nil_append] at hM))
              | ((with_reducible refine at_alloc_ (T := 25) ?_); refine wpList_alloc_mem rfl 25 rfl _ zv_Prefix _ rfl hM ?_; clear hM; intro gb W hM; first | (simp only [List.nil_append] at hM) | (simp only [List.cons_append, List.nil_append] at hM))
              | ((with_reducible refine at_load_ (T := 25) ?_); refine at_wanted_ (by rfl) ?_; first | (refine wpList_loadg_mem (by go_simp) 25 _ rfl 0 _ _ _ hM rfl rfl _ Try.underlying25 rfl sz_Prefix ?_) | (refine wpList_loadg_mem (by go_simp) 25 _ rfl 1 _ _ _ hM rfl rfl _ Try.underlying25 rfl sz_Prefix ?_) | (refine wpList_loadg_mem (by go_simp) 25 _ rfl 2 _ _ _ hM rfl rfl _ Try.underlying25 rfl sz_Prefix ?_))
              | ((with_reducible refine at_store_ (T := 25) ?_); first | (refine wpList_store_mem rfl 25 _ _ rfl 0 _ _ _ _ hM rfl rfl rfl rfl sz_Prefix rfl ?_; clear hM; intro W hM; simp only [List.set_cons_zero] at hM) | (refine wpList_store_mem rfl 25 _ _ rfl 1 _ _ _ _ hM rfl rfl rfl rfl sz_Prefix rfl ?_; clear hM; intro W hM; simp only [List.set_cons_succ, List.set_cons_zero] at hM) | (refine wpList_store_mem rfl 25 _ _ rfl 2 _ _ _ _ hM rfl rfl rfl rfl sz_Prefix rfl ?_; clear hM; intro W hM; simp only [List.set_cons_succ, List.set_cons_zero] at hM))
              | ((with_reducible refine at_load_ ?_); refine at_wanted_ (by rfl) ?_; first | (refine wpList_loadf_mem (by go_simp) _ _ rfl (by kernel_rfl) 0 _ _ _ _ _ hM rfl rfl (by first | rfl | assumption) ?_) | (refine wpList_loadf_mem (by go_simp) _ _ rfl (by kernel_rfl) 1 _ _ _ _ _ hM rfl rfl (by first | rfl | assumption) ?_) | (refine wpList_loadf_mem (by go_simp) _ _ rfl (by kernel_rfl) 2 _ _ _ _ _ hM rfl rfl (by first | rfl | assumption) ?_))
              | ((with_reducible refine at_store_ ?_); first | (refine wpList_store1_mem rfl _ _ _ rfl 0 _ _ _ _ _ hM rfl rfl (by first | ((conv => lhs; whnf); done) | ((conv => lhs; whnf); rfl)) (by rfl) (by rfl) (by kernel_rfl) rfl ?_; clear hM; intro W hM; simp only [List.set_cons_succ, List.set_cons_zero] at hM) | (refine wpList_store1_mem rfl _ _ _ rfl 1 _ _ _ _ _ hM rfl rfl (by first | ((conv => lhs; whnf); done) | ((conv => lhs; whnf); rfl)) (by rfl) (by rfl) (by kernel_rfl) rfl ?_; clear hM; intro W hM; simp only [List.set_cons_succ, List.set_cons_zero] at hM) | (refine wpList_store1_mem rfl _ _ _ rfl 2 _ _ _ _ _ hM rfl rfl (by first | ((conv => lhs; whnf); done) | ((conv => lhs; whnf); rfl)) (by rfl) (by rfl) (by kernel_rfl) rfl ?_; clear hM; intro W hM; simp only [List.set_cons_succ, List.set_cons_zero] at hM)))
            replace hM := (show Mem w _ ([_] ++ _) from hM).drop_
            go_roundg (m - (k + 1))
            case measure => have := HGK.out; omega
            case rel => exact ⟨k + 1, rfl, by omega, by go_num, by rw [HS3.out], by rw [HS4.out]; go_num, hM⟩
        · have HS3 := Lib.hid (HS2.out.trans (by unfold mx; rw [if_neg (by omega)]))
          by_cases he : pp = q
          · have HEQ := Lib.hid (fun W => (show (Op.equalIn 10000 25 (.agg (cPrefix ⟨num pp, pp.length⟩).toArray) (.agg (cPrefix ⟨num q, q.length⟩).toArray)).run Try.prog W = .ok true W from by rw [he]; exact eqT_Prefix _ W))
            have HS4 := Lib.hid (HSC.out.trans (by rw [if_pos he]))
            clear he
            go_wp2_with (first
              | go_skip
              | (go_at_call 15; go_must (refine (HH.out _).mono ?_; rintro e W ⟨rfl, hb⟩; replace hM := hM.kept hb; clear hb))
              | ((with_reducible refine at_eq_ (T := 25) ?_); go_loud (refine wpList_eq_mem (by go_simp) 25 _ _ _ rfl _ _ rfl rfl eg_Prefix _ (HEQ.out) ?_))
              | ((with_reducible refine at_box_ ?_); refine wpList_box_mem rfl _ _ rfl _ rfl hM ?_; clear hM; intro gb W hM; first | (simp only [List.nil_append] at hM) | (simp only [List.cons_append, List.nil_append] at hM))
              | ((with_reducible refine at_alloc_ (T := 25) ?_); refine wpList_alloc_mem rfl 25 rfl _ zv_Prefix _ rfl hM ?_; clear hM; intro gb W hM; first | (simp only [List.nil_append] at hM) | (simp only [List.cons_append, List.nil_append] at hM))
              | ((with_reducible refine at_load_ (T := 25) ?_); refine at_wanted_ (by rfl) ?_; first | (refine wpList_loadg_mem (by go_simp) 25 _ rfl 0 _ _ _ hM rfl rfl _ Try.underlying25 rfl sz_Prefix ?_) | (refine wpList_loadg_mem (by go_simp) 25 _ rfl 1 _ _ _ hM rfl rfl _ Try.underlying25 rfl sz_Prefix ?_) | (refine wpList_loadg_mem (by go_simp) 25 _ rfl 2 _ _ _ hM rfl rfl _ Try.underlying25 rfl sz_Prefix ?_))
              | ((with_reducible refine at_store_ (T := 25) ?_); first | (refine wpList_store_mem rfl 25 _ _ rfl 0 _ _ _ _ hM rfl rfl rfl rfl sz_Prefix rfl ?_; clear hM; intro W hM; simp only [List.set_cons_zero] at hM) | (refine wpList_store_mem rfl 25 _ _ rfl 1 _ _ _ _ hM rfl rfl rfl rfl sz_Prefix rfl ?_; clear hM; intro W hM; simp only [List.set_cons_succ, List.set_cons_zero] at hM) | (refine wpList_store_mem rfl 25 _ _ rfl 2 _ _ _ _ hM rfl rfl rfl rfl sz_Prefix rfl ?_; clear hM; intro W hM; simp only [List.set_cons_succ, List.set_cons_zero] at hM))
              | ((with_reducible refine at_load_ ?_); refine at_wanted_ (by rfl) ?_; first | (refine wpList_loadf_mem (by go_simp) _ _ rfl (by kernel_rfl) 0 _ _ _ _ _ hM rfl rfl (by first | rfl | assumption) ?_) | (refine wpList_loadf_mem (by go_simp) _ _ rfl (by kernel_rfl) 1 _ _ _ _ _ hM rfl rfl (by first | rfl | assumption) ?_) | (refine wpList_loadf_mem (by go_simp) _ _ rfl (by kernel_rfl) 2 _ _ _ _ _ hM rfl rfl (by first | rfl | assumption) ?_))
              | ((with_reducible refine at_store_ ?_); first | (refine wpList_store1_mem rfl _ _ _ rfl 0 _ _ _ _ _ hM rfl rfl (by first | ((conv => lhs; whnf); done) | ((conv => lhs; whnf); rfl)) (by rfl) (by rfl) (by kernel_rfl) rfl ?_; clear hM; intro W hM; simp only [List.set_cons_succ, List.set_cons_zero] at hM) | (refine wpList_store1_mem rfl _ _ _ rfl 1 _ _ _ _ _ hM rfl rfl (by first | ((conv => lhs; whnf); done) | ((conv => lhs; whnf); rfl)) (by rfl) (by rfl) (by kernel_rfl) rfl ?_; clear hM; intro W hM; simp only [List.set_cons_succ, List.set_cons_zero] at hM) | (refine wpList_store1_mem rfl _ _ _ rfl 2 _ _ _ _ _ hM rfl rfl (by first | ((conv => lhs; whnf); done) | ((conv => lhs; whnf); rfl)) (by rfl) (by rfl) (by kernel_rfl) rfl ?_; clear hM; intro W hM; simp only [List.set_cons_succ, List.set_cons_zero] at hM)))
            replace hM := (show Mem w _ ([_] ++ _) from hM).drop_
            go_roundg (m - (k + 1))
            case measure => have := HGK.out; omega
            case rel => exact ⟨k + 1, rfl, by omega, by go_num, by rw [HS3.out], by rw [HS4.out]; go_num, hM⟩
          · have HEQ := Lib.hid (fun W => eqF_Prefix ⟨num pp, pp.length⟩ ⟨num q, q.length⟩ (fun e => by injection e with e1 e2; exact he (HQI.out (by omega) (by omega))) W)
            have HS4 := Lib.hid (HSC.out.trans (by rw [if_neg he]))
            clear he
            go_wp2_with (first
              | go_skip
              | (go_at_call 15; go_must (refine (HH.out _).mono ?_; rintro e W ⟨rfl, hb⟩; replace hM := hM.kept hb; clear hb))
              | ((with_reducible refine at_eq_ (T := 25) ?_); go_loud (refine wpList_eq_mem (by go_simp) 25 _ _ _ rfl _ _ rfl rfl eg_Prefix _ (HEQ.out) ?_))
              | ((with_reducible refine at_box_ ?_); refine wpList_box_mem rfl _ _ rfl _ rfl hM ?_; clear hM; intro gb W hM; first | (simp only [List.nil_append] at hM) | (simp only [List.cons_append, List.nil_append] at hM))
              | ((with_reducible refine at_alloc_ (T := 25) ?_); refine wpList_alloc_mem rfl 25 rfl _ zv_Prefix _ rfl hM ?_; clear hM; intro gb W hM; first | (simp only [List.nil_append] at hM) | (simp only [List.cons_append, List.nil_append] at hM))
              | ((with_reducible refine at_load_ (T := 25) ?_); refine at_wanted_ (by rfl) ?_; first | (refine wpList_loadg_mem (by go_simp) 25 _ rfl 0 _ _ _ hM rfl rfl _ Try.underlying25 rfl sz_Prefix ?_) | (refine wpList_loadg_mem (by go_simp) 25 _ rfl 1 _ _ _ hM rfl rfl _ Try.underlying25 rfl sz_Prefix ?_) | (refine wpList_loadg_mem (by go_simp) 25 _ rfl 2 _ _ _ hM rfl rfl _ Try.underlying25 rfl sz_Prefix ?_))
              | ((with_reducible refine at_store_ (T := 25) ?_); first | (refine wpList_store_mem rfl 25 _ _ rfl 0 _ _ _ _ hM rfl rfl rfl rfl sz_Prefix rfl ?_; clear hM; intro W hM; simp only [List.set_cons_zero] at hM) | (refine wpList_store_mem rfl 25 _ _ rfl 1 _ _ _ _ hM rfl rfl rfl rfl sz_Prefix rfl ?_; clear hM; intro W hM; simp only [List.set_cons_succ, List.set_cons_zero] at hM) | (refine wpList_store_mem rfl 25 _ _ rfl 2 _ _ _ _ hM rfl rfl rfl rfl sz_Prefix rfl ?_; clear hM; intro W hM; simp only [List.set_cons_succ, List.set_cons_zero] at hM))
              | ((with_reducible refine at_load_ ?_); refine at_wanted_ (by rfl) ?_; first | (refine wpList_loadf_mem (by go_simp) _ _ rfl (by kernel_rfl) 0 _ _ _ _ _ hM rfl rfl (by first | rfl | assumption) ?_) | (refine wpList_loadf_mem (by go_simp) _ _ rfl (by kernel_rfl) 1 _ _ _ _ _ hM rfl rfl (by first | rfl | assumption) ?_) | (refine wpList_loadf_mem (by go_simp) _ _ rfl (by kernel_rfl) 2 _ _ _ _ _ hM rfl rfl (by first | rfl | assumption) ?_))
              | ((with_reducible refine at_store_ ?_); first | (refine wpList_store1_mem rfl _ _ _ rfl 0 _ _ _ _ _ hM rfl rfl (by first | ((conv => lhs; whnf); done) | ((conv => lhs; whnf); rfl)) (by rfl) (by rfl) (by kernel_rfl) rfl ?_; clear hM; intro W hM; simp only [List.set_cons_succ, List.set_cons_zero] at hM) | (refine wpList_store1_mem rfl _ _ _ rfl 1 _ _ _ _ _ hM rfl rfl (by first | ((conv => lhs; whnf); done) | ((conv => lhs; whnf); rfl)) (by rfl) (by rfl) (by kernel_rfl) rfl ?_; clear hM; intro W hM; simp only [List.set_cons_succ, List.set_cons_zero] at hM) | (refine wpList_store1_mem rfl _ _ _ rfl 2 _ _ _ _ _ hM rfl rfl (by first | ((conv => lhs; whnf); done) | ((conv => lhs; whnf); rfl)) (by rfl) (by rfl) (by kernel_rfl) rfl ?_; clear hM; intro W hM; simp only [List.set_cons_succ, List.set_cons_zero] at hM)))
            replace hM := (show Mem w _ ([_] ++ _) from hM).drop_
            go_roundg (m - (k + 1))
            case measure => have := HGK.out; omega
            case rel => exact ⟨k + 1, rfl, by omega, by go_num, by rw [HS3.out], by rw [HS4.out]; go_num, hM⟩
    · obtain rfl : m = k := by omega
      rw [List.take_of_length_le (by rw [HLN.out]; exact Nat.le_refl _)] at hblo hbhi hcnt ⊢
      cases o with
      | none =>
        have hb := best_none HT.out (by omega) HO.out
        rw [← HL.out] at hb
        rw [hb]
        have hp0 : pp = [] := HPP.out
        subst hp0
        simp only [oB, oV]
        have HEQ := Lib.hid (fun W => (show (Op.equalIn 10000 25 (.agg (cPrefix ⟨num [], ([] : List Bool).length⟩).toArray) (.agg #[.int .u32 0, .int .i64 0])).run Try.prog W = .ok true W from eqT_Prefix ⟨0, 0⟩ W))
        clear hb hblo hbhi
        generalize l.count [] = n9 at *
        go_wp2_with (first
          | go_skip
          | ((with_reducible refine at_eq_ (T := 25) ?_); go_loud (refine wpList_eq_mem (by go_simp) 25 _ _ _ rfl _ _ rfl rfl eg_Prefix _ (HEQ.out) ?_))
          | ((with_reducible refine at_box_ ?_); refine wpList_box_mem rfl _ _ rfl _ rfl hM ?_; clear hM; intro gb W hM; first | (simp only [List.nil_append] at hM) | (simp only [List.cons_append, List.nil_append] at hM))
          | ((with_reducible refine at_alloc_ (T := 25) ?_); refine wpList_alloc_mem rfl 25 rfl _ zv_Prefix _ rfl hM ?_; clear hM; intro gb W hM; first | (simp only [List.nil_append] at hM) | (simp only [List.cons_append, List.nil_append] at hM))
          | ((with_reducible refine at_load_ (T := 25) ?_); refine at_wanted_ (by rfl) ?_; first | (refine wpList_loadg_mem (by go_simp) 25 _ rfl 0 _ _ _ hM rfl rfl _ Try.underlying25 rfl sz_Prefix ?_) | (refine wpList_loadg_mem (by go_simp) 25 _ rfl 1 _ _ _ hM rfl rfl _ Try.underlying25 rfl sz_Prefix ?_))
          | ((with_reducible refine at_store_ (T := 25) ?_); first | (refine wpList_store_mem rfl 25 _ _ rfl 0 _ _ _ _ hM rfl rfl rfl rfl sz_Prefix rfl ?_; clear hM; intro W hM; simp only [List.set_cons_zero] at hM) | (refine wpList_store_mem rfl 25 _ _ rfl 1 _ _ _ _ hM rfl rfl rfl rfl sz_Prefix rfl ?_; clear hM; intro W hM; simp only [List.set_cons_succ, List.set_cons_zero] at hM))
          | ((with_reducible refine at_load_ ?_); refine at_wanted_ (by rfl) ?_; first | (refine wpList_loadf_mem (by go_simp) _ _ rfl (by kernel_rfl) 0 _ _ _ _ _ hM rfl rfl (by first | rfl | assumption) ?_) | (refine wpList_loadf_mem (by go_simp) _ _ rfl (by kernel_rfl) 1 _ _ _ _ _ hM rfl rfl (by first | rfl | assumption) ?_))
          | ((with_reducible refine at_store_ ?_); first | (refine wpList_store1_mem rfl _ _ _ rfl 0 _ _ _ _ _ hM rfl rfl (by first | ((conv => lhs; whnf); done) | ((conv => lhs; whnf); rfl)) (by rfl) (by rfl) (by kernel_rfl) rfl ?_; clear hM; intro W hM; simp only [List.set_cons_succ, List.set_cons_zero] at hM) | (refine wpList_store1_mem rfl _ _ _ rfl 1 _ _ _ _ _ hM rfl rfl (by first | ((conv => lhs; whnf); done) | ((conv => lhs; whnf); rfl)) (by rfl) (by rfl) (by kernel_rfl) rfl ?_; clear hM; intro W hM; simp only [List.set_cons_succ, List.set_cons_zero] at hM)))
        go_ret
        exact ⟨rfl, hM.b⟩
      | some z =>
        obtain ⟨j, v⟩ := z
        obtain ⟨hb, h1, h2⟩ := best_some HT.out (by omega) HO.out
        rw [← HL.out] at hb h1
        have hp0 : pp = path c j := HPP.out
        rw [← hp0] at h1 h2
        rw [hb, h1]
        have hjl := (bst_lt HO.out).1
        have hppl : pp.length = j := by rw [hp0, path_len]
        have hnp := num_lt hpl
        have HH := Lib.hid (fun W => Has_any (num pp) pp.length c W (by omega) (by omega) (by omega) (by omega) (by omega) (by omega))
        rw [hppl, h2] at HH
        rw [hppl] at hM
        simp only [oB, oV]
        clear hb h1 h2 hp0 hblo hbhi hcnt hppl
        go_wp2_with (first
          | go_skip
          | (go_at_call 15; go_must (refine (HH.out _).mono ?_; rintro e W ⟨rfl, hb⟩; replace hM := hM.kept hb; clear hb))
          | ((with_reducible refine at_box_ ?_); refine wpList_box_mem rfl _ _ rfl _ rfl hM ?_; clear hM; intro gb W hM; first | (simp only [List.nil_append] at hM) | (simp only [List.cons_append, List.nil_append] at hM))
          | ((with_reducible refine at_alloc_ (T := 25) ?_); refine wpList_alloc_mem rfl 25 rfl _ zv_Prefix _ rfl hM ?_; clear hM; intro gb W hM; first | (simp only [List.nil_append] at hM) | (simp only [List.cons_append, List.nil_append] at hM))
          | ((with_reducible refine at_load_ (T := 25) ?_); refine at_wanted_ (by rfl) ?_; first | (refine wpList_loadg_mem (by go_simp) 25 _ rfl 0 _ _ _ hM rfl rfl _ Try.underlying25 rfl sz_Prefix ?_) | (refine wpList_loadg_mem (by go_simp) 25 _ rfl 1 _ _ _ hM rfl rfl _ Try.underlying25 rfl sz_Prefix ?_))
          | ((with_reducible refine at_store_ (T := 25) ?_); first | (refine wpList_store_mem rfl 25 _ _ rfl 0 _ _ _ _ hM rfl rfl rfl rfl sz_Prefix rfl ?_; clear hM; intro W hM; simp only [List.set_cons_zero] at hM) | (refine wpList_store_mem rfl 25 _ _ rfl 1 _ _ _ _ hM rfl rfl rfl rfl sz_Prefix rfl ?_; clear hM; intro W hM; simp only [List.set_cons_succ, List.set_cons_zero] at hM))
          | ((with_reducible refine at_load_ ?_); refine at_wanted_ (by rfl) ?_; first | (refine wpList_loadf_mem (by go_simp) _ _ rfl (by kernel_rfl) 0 _ _ _ _ _ hM rfl rfl (by first | rfl | assumption) ?_) | (refine wpList_loadf_mem (by go_simp) _ _ rfl (by kernel_rfl) 1 _ _ _ _ _ hM rfl rfl (by first | rfl | assumption) ?_))
          | ((with_reducible refine at_store_ ?_); first | (refine wpList_store1_mem rfl _ _ _ rfl 0 _ _ _ _ _ hM rfl rfl (by first | ((conv => lhs; whnf); done) | ((conv => lhs; whnf); rfl)) (by rfl) (by rfl) (by kernel_rfl) rfl ?_; clear hM; intro W hM; simp only [List.set_cons_succ, List.set_cons_zero] at hM) | (refine wpList_store1_mem rfl _ _ _ rfl 1 _ _ _ _ _ hM rfl rfl (by first | ((conv => lhs; whnf); done) | ((conv => lhs; whnf); rfl)) (by rfl) (by rfl) (by kernel_rfl) rfl ?_; clear hM; intro W hM; simp only [List.set_cons_succ, List.set_cons_zero] at hM)))
        go_ret
        exact ⟨rfl, hM.b⟩
end Go.Proofs.Ytalfdbhpaonfjaa
