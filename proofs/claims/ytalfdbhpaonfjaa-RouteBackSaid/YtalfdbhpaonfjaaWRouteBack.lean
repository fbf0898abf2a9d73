/- The walk of RouteBack: it returns true. Written by my genrtw.py. -/
import Derived.Test.YtalfdbhpaonfjaaRtK
import Derived.Test.YtalfdbhpaonfjaaKit
import Derived.Test.YtalfdbhpaonfjaaDat
import Derived.Deep.CutBlock
namespace Go.Proofs.Ytalfdbhpaonfjaa
open Go.RowKit Go.Lib
set_option linter.unusedVariables false
set_option linter.unusedSimpArgs false

set_option maxRecDepth 100000 in
set_option maxHeartbeats 8000000 in
theorem w_RouteBack (A0 : Option Addr) (n0 c0 : Nat) (css0 : Nat → List Value) (a1a : Int) (a1b : Int) (a2 : Int) (a3 : Int) (w : World) (hR0 : Rows_ w A0 n0 ksStep css0) (hl0 : n0 ≤ 140737488351232) (ha1a : 0 ≤ a1a) (ha1a' : a1a ≤ 4294967295) (ha1b : -9223372036854775808 ≤ a1b) (ha1b' : a1b ≤ 9223372036854775807) (ha2 : -9223372036854775808 ≤ a2) (ha2' : a2 ≤ 9223372036854775807) (ha3 : 0 ≤ a3) (ha3' : a3 ≤ 4294967295) :
    Calls Try.prog 4 #[.slice A0 n0 c0, .agg #[.int .u32 a1a, .int .i64 a1b], .int .i64 a2, .int .u32 a3] w fun e w' => e = .returned (.bool true) ∧ Below w.heap.size w w' := by
  obtain ⟨a, rfl⟩ := Int.eq_ofNat_of_zero_le ha1a
  obtain ⟨c, rfl⟩ := Int.eq_ofNat_of_zero_le ha3
  have hM := Mem.nil w
  go_enter Try.func4, Try.ntmps4
  go_upto_region 1 with         (first
          | go_skip
          | ((with_reducible refine at_box_ ?_); refine wpList_box_mem rfl _ _ rfl _ rfl hM ?_; clear hM; intro gb W hM; first | (simp only [List.nil_append] at hM) | (simp only [List.cons_append, List.nil_append] at hM))
          | ((with_reducible refine at_alloc_ (T := 25) ?_); refine wpList_alloc_mem rfl 25 rfl _ zv_Prefix _ rfl hM ?_; clear hM; intro gb W hM; first | (simp only [List.nil_append] at hM) | (simp only [List.cons_append, List.nil_append] at hM))
          | ((with_reducible refine at_load_ (T := 25) ?_); refine at_wanted_ (by rfl) ?_; refine wpList_loadg_mem (by go_simp) 25 _ rfl 0 _ _ _ hM rfl rfl _ Try.underlying25 rfl sz_Prefix ?_)
          | ((with_reducible refine at_store_ (T := 25) ?_); refine wpList_store_mem rfl 25 _ _ rfl 0 _ _ _ _ hM rfl rfl rfl rfl sz_Prefix rfl ?_; clear hM; intro W hM; simp only [List.set_cons_zero] at hM))
  obtain ⟨gp, hgp⟩ : ∃ z, z = gb := ⟨_, rfl⟩
  subst hgp
  have hRW := rows_kept hR0 hM.b
  have HRT := Lib.hid (routes_any A0 n0 c0 css0 W hRW hl0)
  clear hRW
  go_upto_region 2 with (first | (go_at_call 13; refine HRT.out.mono ?_; rintro e W2 ⟨g, m, t, rfl, hM2, hT, -⟩; replace hM := hM.new_ hM2; clear hM2; dsimp only))
  clear HRT hR0
  replace hM : Mem w W2 (atR gp 25 [.int .u32 a, .int .i64 a1b] :: t.res) := res_back hM
  have HT := Lib.hid hT
  have HF := Lib.hid (fun W h => Find_any g m t c W h hT (by omega))
  obtain ⟨l, hl⟩ : ∃ l, l = t.lst [] := ⟨_, rfl⟩
  have HAL := Lib.hid (fun W h => All_any g m t W h hT)
  rw [← hl] at HAL
  have hlen : l.length = m := by rw [hl]; exact (RT.len_lst t []).trans hT.cnt
  have hm64 := hT.m64
  have HL := Lib.hid hl
  have HLN := Lib.hid hlen
  clear hl hlen hT
  obtain ⟨o, ho⟩ : ∃ o, bst t.get c 33 = o := ⟨_, rfl⟩
  rw [ho] at HF
  have HO := Lib.hid ho
  clear ho
  obtain ⟨x1, hx1⟩ : ∃ z, oA c o = z := ⟨_, rfl⟩
  obtain ⟨x2, hx2⟩ : ∃ z, oN o = z := ⟨_, rfl⟩
  obtain ⟨x3, hx3⟩ : ∃ z, oB o = z := ⟨_, rfl⟩
  obtain ⟨x4, hx4⟩ : ∃ z, oV o = z := ⟨_, rfl⟩
  rw [hx1, hx2, hx3, hx4] at HF
  have HX1 := Lib.hid hx1
  have HX2 := Lib.hid hx2
  have HX3 := Lib.hid hx3
  have HX4 := Lib.hid hx4
  clear hx1 hx2 hx3 hx4
  go_upto_region 5 with (first | go_skip | (go_at_call 17; refine (HAL.out _ (front_hand [_] hM)).mono ?_; rintro e W ⟨O, oc, rfl, hM6⟩; replace hM := front_back [_] hM hM6; clear hM6; dsimp only))
  clear HAL
  replace hM : Mem w W (rowR 2 cPa (.slice O m oc) l :: atR gp 25 [.int .u32 a, .int .i64 a1b] :: t.res) := hM.perm (by
    show ([atR gp 25 [.int .u32 a, .int .i64 a1b]] ++ (t.res ++ [rowR 2 cPa (.slice O m oc) l])).Perm _
    rw [← List.append_assoc]
    exact List.perm_append_comm)
  go_upto_region 6 with         (first
          | go_skip
          | (go_at_call 14; refine (HF.out _ (front_hand [_, _] hM)).mono ?_; rintro e W ⟨rfl, hb⟩; replace hM := hM.kept hb; clear hb; dsimp only)
          | ((with_reducible refine at_alloc_ (T := 25) ?_); refine wpList_alloc_mem rfl 25 rfl _ zv_Prefix _ rfl hM ?_; clear hM; intro gN W hM; replace hM := last_front hM)
          | ((with_reducible refine at_store_ (T := 25) ?_); refine wpList_store_mem rfl 25 _ _ rfl 0 _ _ _ _ hM rfl rfl rfl rfl sz_Prefix rfl ?_; clear hM; intro W hM; simp only [List.set_cons_zero] at hM)
          | ((with_reducible refine at_box_ ?_); refine wpList_box_mem rfl _ _ rfl _ rfl hM ?_; clear hM; intro gb W hM; first | (simp only [List.nil_append] at hM) | (simp only [List.cons_append, List.nil_append] at hM)))
  obtain ⟨gr, hgr⟩ : ∃ z, z = gN := ⟨_, rfl⟩
  subst hgr
  replace hM : Mem w W (atR gr 25 [.int .u32 x1, .int .i64 x2] :: rowR 2 cPa (.slice O m oc) l :: atR gp 25 [.int .u32 a, .int .i64 a1b] :: t.res) := hM
  clear HF
  have HA := Lib.hid (fun W h => Add_any g m t a a1b a2 W h HT.out (by omega) ⟨by omega, by omega⟩)
  go_wp2_with         (first
          | go_skip
          | ((with_reducible refine at_box_ ?_); refine wpList_box_mem rfl _ _ rfl _ rfl hM ?_; clear hM; intro gb W hM; first | (simp only [List.nil_append] at hM) | (simp only [List.cons_append, List.nil_append] at hM))
          | ((with_reducible refine at_alloc_ (T := 25) ?_); refine wpList_alloc_mem rfl 25 rfl _ zv_Prefix _ rfl hM ?_; clear hM; intro gb W hM; first | (simp only [List.nil_append] at hM) | (simp only [List.cons_append, List.nil_append] at hM))
          | ((with_reducible refine at_load_ (T := 25) ?_); refine at_wanted_ (by rfl) ?_; first | (refine wpList_loadg_mem (by go_simp) 25 _ rfl 0 _ _ _ hM rfl rfl _ Try.underlying25 rfl sz_Prefix ?_) | (refine wpList_loadg_mem (by go_simp) 25 _ rfl 1 _ _ _ hM rfl rfl _ Try.underlying25 rfl sz_Prefix ?_) | (refine wpList_loadg_mem (by go_simp) 25 _ rfl 2 _ _ _ hM rfl rfl _ Try.underlying25 rfl sz_Prefix ?_))
          | ((with_reducible refine at_store_ (T := 25) ?_); first | (refine wpList_store_mem rfl 25 _ _ rfl 0 _ _ _ _ hM rfl rfl rfl rfl sz_Prefix rfl ?_; clear hM; intro W hM; simp only [List.set_cons_zero] at hM) | (refine wpList_store_mem rfl 25 _ _ rfl 1 _ _ _ _ hM rfl rfl rfl rfl sz_Prefix rfl ?_; clear hM; intro W hM; simp only [List.set_cons_succ, List.set_cons_zero] at hM) | (refine wpList_store_mem rfl 25 _ _ rfl 2 _ _ _ _ hM rfl rfl rfl rfl sz_Prefix rfl ?_; clear hM; intro W hM; simp only [List.set_cons_succ, List.set_cons_zero] at hM)))
  refine (HA.out _ (front_hand [_, _, _] hM)).mono ?_
  rintro e W ⟨e1, t1, m1, rfl, hM6, hT1, hR1⟩
  replace hM := front_back [_, _, _] hM hM6
  clear hM6 HA
  dsimp only
  replace hM : Mem w W (atR gr 25 [.int .u32 x1, .int .i64 x2] :: rowR 2 cPa (.slice O m oc) l :: atR gp 25 [.int .u32 a, .int .i64 a1b] :: t1.res) := hM
  have HT1 := Lib.hid hT1
  have HR1 := Lib.hid hR1
  clear hT1 hR1
  have hde : (e1 == 0) = true ∨ (e1 == 0) = false := by cases (e1 == 0) <;> simp
  go_upto_if 42 with (fail)
  go_cut [] (fun wc => ∃ (t2 : RT) (m2 : Nat), Mem w wc (atR gr 25 [.int .u32 x1, .int .i64 x2] :: rowR 2 cPa (.slice O m oc) l :: atR gp 25 [.int .u32 a, .int .i64 a1b] :: t2.res) ∧ Hid (Tab g t2 m2) ∧ Hid (∀ q, t2.get q = t.get q))
  case first =>
    rcases hde with he | he
    · obtain rfl : e1 = 0 := by simpa using he
      clear he
      have HD1 := Lib.hid (fun W h => Drop_any g m1 t1 a a1b W h HT1.out (by omega) ⟨by omega, by omega⟩)
      have HD2 := Lib.hid (fun W h => (HD1.out W h).mono (fun e w' h2 => (by
        obtain ⟨e', t2, m2, he, h3, h4, h5⟩ := h2
        have h6 := drop_added HR1.out h5
        subst h6
        exact ⟨t2, m2, he, h3, h4, h5⟩ : ∃ (t2 : RT) (m2 : Nat), e = .returned (.int .i64 0) ∧ MemX (blkE t1.res) W w' t2.res ∧ Tab g t2 m2 ∧ DropR t1 m1 a a1b 0 t2 m2)))
      go_wp2_with         (first
          | go_skip
          | ((with_reducible refine at_box_ ?_); refine wpList_box_mem rfl _ _ rfl _ rfl hM ?_; clear hM; intro gb W hM; first | (simp only [List.nil_append] at hM) | (simp only [List.cons_append, List.nil_append] at hM))
          | ((with_reducible refine at_alloc_ (T := 25) ?_); refine wpList_alloc_mem rfl 25 rfl _ zv_Prefix _ rfl hM ?_; clear hM; intro gb W hM; first | (simp only [List.nil_append] at hM) | (simp only [List.cons_append, List.nil_append] at hM))
          | ((with_reducible refine at_load_ (T := 25) ?_); refine at_wanted_ (by rfl) ?_; first | (refine wpList_loadg_mem (by go_simp) 25 _ rfl 0 _ _ _ hM rfl rfl _ Try.underlying25 rfl sz_Prefix ?_) | (refine wpList_loadg_mem (by go_simp) 25 _ rfl 1 _ _ _ hM rfl rfl _ Try.underlying25 rfl sz_Prefix ?_) | (refine wpList_loadg_mem (by go_simp) 25 _ rfl 2 _ _ _ hM rfl rfl _ Try.underlying25 rfl sz_Prefix ?_))
          | ((with_reducible refine at_store_ (T := 25) ?_); first | (refine wpList_store_mem rfl 25 _ _ rfl 0 _ _ _ _ hM rfl rfl rfl rfl sz_Prefix rfl ?_; clear hM; intro W hM; simp only [List.set_cons_zero] at hM) | (refine wpList_store_mem rfl 25 _ _ rfl 1 _ _ _ _ hM rfl rfl rfl rfl sz_Prefix rfl ?_; clear hM; intro W hM; simp only [List.set_cons_succ, List.set_cons_zero] at hM) | (refine wpList_store_mem rfl 25 _ _ rfl 2 _ _ _ _ hM rfl rfl rfl rfl sz_Prefix rfl ?_; clear hM; intro W hM; simp only [List.set_cons_succ, List.set_cons_zero] at hM)))
      refine (HD2.out _ (front_hand [_, _, _] hM)).mono ?_
      rintro e W ⟨t2, m2, rfl, hM6, hT2, hR2⟩
      replace hM := front_back [_, _, _] hM hM6
      clear hM6 HD1 HD2
      dsimp only
      replace hM : Mem w W (atR gr 25 [.int .u32 x1, .int .i64 x2] :: rowR 2 cPa (.slice O m oc) l :: atR gp 25 [.int .u32 a, .int .i64 a1b] :: t2.res) := hM
      have HR2 := Lib.hid hR2
      have HD1 := Lib.hid (fun W h => Drop_any g m2 t2 a a1b W h hT2 (by omega) ⟨by omega, by omega⟩)
      have HD2 := Lib.hid (fun W h => (HD1.out W h).mono (fun e w' h2 => (by
        obtain ⟨e', t3, m3, he, h3, h4, h5⟩ := h2
        obtain ⟨_, h6, h7⟩ := add_drop HR1.out HR2.out h5
        subst h6
        exact ⟨t3, m3, he, h3, h4, h7⟩ : ∃ (t3 : RT) (m3 : Nat), e = .returned (.int .i64 7) ∧ MemX (blkE t2.res) W w' t3.res ∧ Tab g t3 m3 ∧ ∀ q, t3.get q = t.get q)))
      clear hT2 hR2 HD1
      go_wp2_with         (first
          | go_skip
          | ((with_reducible refine at_box_ ?_); refine wpList_box_mem rfl _ _ rfl _ rfl hM ?_; clear hM; intro gb W hM; first | (simp only [List.nil_append] at hM) | (simp only [List.cons_append, List.nil_append] at hM))
          | ((with_reducible refine at_alloc_ (T := 25) ?_); refine wpList_alloc_mem rfl 25 rfl _ zv_Prefix _ rfl hM ?_; clear hM; intro gb W hM; first | (simp only [List.nil_append] at hM) | (simp only [List.cons_append, List.nil_append] at hM))
          | ((with_reducible refine at_load_ (T := 25) ?_); refine at_wanted_ (by rfl) ?_; first | (refine wpList_loadg_mem (by go_simp) 25 _ rfl 0 _ _ _ hM rfl rfl _ Try.underlying25 rfl sz_Prefix ?_) | (refine wpList_loadg_mem (by go_simp) 25 _ rfl 1 _ _ _ hM rfl rfl _ Try.underlying25 rfl sz_Prefix ?_) | (refine wpList_loadg_mem (by go_simp) 25 _ rfl 2 _ _ _ hM rfl rfl _ Try.underlying25 rfl sz_Prefix ?_))
          | ((with_reducible refine at_store_ (T := 25) ?_); first | (refine wpList_store_mem rfl 25 _ _ rfl 0 _ _ _ _ hM rfl rfl rfl rfl sz_Prefix rfl ?_; clear hM; intro W hM; simp only [List.set_cons_zero] at hM) | (refine wpList_store_mem rfl 25 _ _ rfl 1 _ _ _ _ hM rfl rfl rfl rfl sz_Prefix rfl ?_; clear hM; intro W hM; simp only [List.set_cons_succ, List.set_cons_zero] at hM) | (refine wpList_store_mem rfl 25 _ _ rfl 2 _ _ _ _ hM rfl rfl rfl rfl sz_Prefix rfl ?_; clear hM; intro W hM; simp only [List.set_cons_succ, List.set_cons_zero] at hM)))
      refine (HD2.out _ (front_hand [_, _, _] hM)).mono ?_
      rintro e W ⟨t3, m3, rfl, hM6, hT3, hG3⟩
      replace hM := front_back [_, _, _] hM hM6
      clear hM6 HD2
      dsimp only
      have HK := Lib.hid (show ∃ (t2 : RT) (m2 : Nat), Mem w W (atR gr 25 [.int .u32 x1, .int .i64 x2] :: rowR 2 cPa (.slice O m oc) l :: atR gp 25 [.int .u32 a, .int .i64 a1b] :: t2.res) ∧ Hid (Tab g t2 m2) ∧ Hid (∀ q, t2.get q = t.get q) from ⟨t3, m3, hM, Lib.hid hT3, Lib.hid hG3⟩)
      clear hT3 hG3
      go_wp2_with fail
      go_meet
      case rel => exact HK.out
    · have hne : e1 ≠ 0 := by simpa using he
      have hs := add_same HR1.out hne
      have HK := Lib.hid (show ∃ (t2 : RT) (m2 : Nat), Mem w W (atR gr 25 [.int .u32 x1, .int .i64 x2] :: rowR 2 cPa (.slice O m oc) l :: atR gp 25 [.int .u32 a, .int .i64 a1b] :: t2.res) ∧ Hid (Tab g t2 m2) ∧ Hid (∀ q, t2.get q = t.get q) from ⟨t1, m1, hM, HT1, Lib.hid (fun q => by rw [hs.1])⟩)
      clear hs
      clear hne
      go_wp2_with fail
      go_meet
      case rel => exact HK.out
  case rest =>
    obtain ⟨t2, m2, hM2, HT2, HG2⟩ := hcut
    clear hM HT1 HR1 hde
    have hM := hM2
    clear hM2
    have HF := Lib.hid (fun W h => Find_any g m2 t2 c W h HT2.out (by omega))
    rw [bst_same c HG2.out, HO.out, HX1.out, HX2.out, HX3.out, HX4.out] at HF
    have HAL := Lib.hid (fun W h => All_any g m2 t2 W h HT2.out)
    rw [lst_same HG2.out, ← HL.out] at HAL
    have hmm : m2 = m := by
      have h1 := RT.len_lst t2 []
      rw [lst_same HG2.out, ← HL.out, HLN.out, HT2.out.cnt] at h1
      exact h1.symm
    subst hmm
    have hl64 : l.length ≤ 100000 := by rw [HLN.out]; omega
    have HEP := Lib.hid (fun E v1 W h => Eq_pre E v1 (.slice O m2 oc) l W h hl64)
    have HEQ := Lib.hid (fun W => (show (Op.equalIn 10000 25 (.agg #[.int .u32 x1, .int .i64 x2]) (.agg #[.int .u32 x1, .int .i64 x2])).run Try.prog W = .ok true W from eqT_Prefix ⟨x1, x2⟩ W))
    clear hl64
    go_upto_region 10 with         (first
          | go_skip
          | (go_at_call 14; refine (HF.out _ (front_hand [_, _, _] hM)).mono ?_; rintro e W ⟨rfl, hb⟩; replace hM := hM.kept hb; clear hb; dsimp only)
          | ((with_reducible refine at_alloc_ (T := 25) ?_); refine wpList_alloc_mem rfl 25 rfl _ zv_Prefix _ rfl hM ?_; clear hM; intro gN W hM; replace hM := last_front hM)
          | ((with_reducible refine at_store_ (T := 25) ?_); refine wpList_store_mem rfl 25 _ _ rfl 0 _ _ _ _ hM rfl rfl rfl rfl sz_Prefix rfl ?_; clear hM; intro W hM; simp only [List.set_cons_zero] at hM)
          | ((with_reducible refine at_box_ ?_); refine wpList_box_mem rfl _ _ rfl _ rfl hM ?_; clear hM; intro gb W hM; first | (simp only [List.nil_append] at hM) | (simp only [List.cons_append, List.nil_append] at hM)))
    obtain ⟨gq, hgq⟩ : ∃ z, z = gN := ⟨_, rfl⟩
    subst hgq
    replace hM : Mem w W (atR gq 25 [.int .u32 x1, .int .i64 x2] :: atR gr 25 [.int .u32 x1, .int .i64 x2] :: rowR 2 cPa (.slice O m2 oc) l :: atR gp 25 [.int .u32 a, .int .i64 a1b] :: t2.res) := hM
    go_upto_region 12 with         (first
          | go_skip
          | ((with_reducible refine at_ne_ (T := 25) ?_); go_loud (refine wpList_ne_mem (by go_simp) 25 _ _ _ rfl _ _ rfl rfl eg_Prefix _ (HEQ.out) ?_))
          | (go_at_call 17; refine (HAL.out _ (front_hand [_, _, _, _] hM)).mono ?_; rintro e W ⟨O2, oc2, rfl, hM6⟩; replace hM := last_first (front_back [_, _, _, _] hM hM6); clear hM6; dsimp only; replace hM : Mem w W (rowR 2 cPa (.slice O2 m2 oc2) l :: atR gq 25 [.int .u32 x1, .int .i64 x2] :: atR gr 25 [.int .u32 x1, .int .i64 x2] :: rowR 2 cPa (.slice O m2 oc) l :: atR gp 25 [.int .u32 a, .int .i64 a1b] :: t2.res) := hM)
          | (go_at_call 19; refine (HEP.out _ _ _ (hM.perm (eq_perm _ _ _ _ _)).hand).mono ?_; rintro e W ⟨rfl, hM6⟩; replace hM := (hM.perm (eq_perm _ _ _ _ _)).back hM6; clear hM6; dsimp only; replace hM : Mem w W (atR gq 25 [.int .u32 x1, .int .i64 x2] :: atR gr 25 [.int .u32 x1, .int .i64 x2] :: rowR 2 cPa (.slice O m2 oc) l :: atR gp 25 [.int .u32 a, .int .i64 a1b] :: t2.res) := (show Mem w W ([_] ++ (atR gq 25 [.int .u32 x1, .int .i64 x2] :: atR gr 25 [.int .u32 x1, .int .i64 x2] :: rowR 2 cPa (.slice O m2 oc) l :: atR gp 25 [.int .u32 a, .int .i64 a1b] :: t2.res)) from hM.perm (eq_perm _ _ _ _ _).symm).drop_)
          | ((with_reducible refine at_box_ ?_); refine wpList_box_mem rfl _ _ rfl _ rfl hM ?_; clear hM; intro gb W hM; first | (simp only [List.nil_append] at hM) | (simp only [List.cons_append, List.nil_append] at hM))
          | ((with_reducible refine at_alloc_ (T := 25) ?_); refine wpList_alloc_mem rfl 25 rfl _ zv_Prefix _ rfl hM ?_; clear hM; intro gb W hM; first | (simp only [List.nil_append] at hM) | (simp only [List.cons_append, List.nil_append] at hM))
          | ((with_reducible refine at_load_ (T := 25) ?_); refine at_wanted_ (by rfl) ?_; first | (refine wpList_loadg_mem (by go_simp) 25 _ rfl 0 _ _ _ hM rfl rfl _ Try.underlying25 rfl sz_Prefix ?_) | (refine wpList_loadg_mem (by go_simp) 25 _ rfl 1 _ _ _ hM rfl rfl _ Try.underlying25 rfl sz_Prefix ?_) | (refine wpList_loadg_mem (by go_simp) 25 _ rfl 2 _ _ _ hM rfl rfl _ Try.underlying25 rfl sz_Prefix ?_))
          | ((with_reducible refine at_store_ (T := 25) ?_); first | (refine wpList_store_mem rfl 25 _ _ rfl 0 _ _ _ _ hM rfl rfl rfl rfl sz_Prefix rfl ?_; clear hM; intro W hM; simp only [List.set_cons_zero] at hM) | (refine wpList_store_mem rfl 25 _ _ rfl 1 _ _ _ _ hM rfl rfl rfl rfl sz_Prefix rfl ?_; clear hM; intro W hM; simp only [List.set_cons_succ, List.set_cons_zero] at hM) | (refine wpList_store_mem rfl 25 _ _ rfl 2 _ _ _ _ hM rfl rfl rfl rfl sz_Prefix rfl ?_; clear hM; intro W hM; simp only [List.set_cons_succ, List.set_cons_zero] at hM)))
    have hM2 := (show Mem w W ([atR gq 25 [.int .u32 x1, .int .i64 x2]] ++ (atR gr 25 [.int .u32 x1, .int .i64 x2] :: rowR 2 cPa (.slice O m2 oc) l :: atR gp 25 [.int .u32 a, .int .i64 a1b] :: t2.res)) from hM).drop_
    have hM3 := hM2.perm (show (atR gr 25 [.int .u32 x1, .int .i64 x2] :: rowR 2 cPa (.slice O m2 oc) l :: atR gp 25 [.int .u32 a, .int .i64 a1b] :: t2.res).Perm (atR gp 25 [.int .u32 a, .int .i64 a1b] :: rowR 2 cPa (.slice O m2 oc) l :: atR gr 25 [.int .u32 x1, .int .i64 x2] :: t2.res) from (List.Perm.swap _ _ _).trans ((List.Perm.cons _ (List.Perm.swap _ _ _)).trans (List.Perm.swap _ _ _)))
    have hM4 : Mem w W (rowR 2 cPa (.slice O m2 oc) l :: atR gr 25 [.int .u32 x1, .int .i64 x2] :: t2.res) := (show Mem w W ([atR gp 25 [.int .u32 a, .int .i64 a1b]] ++ (rowR 2 cPa (.slice O m2 oc) l :: atR gr 25 [.int .u32 x1, .int .i64 x2] :: t2.res)) from hM3).drop_
    clear hM hM2 hM3
    have hM := hM4
    clear hM4 HEQ HF HAL
    have HRN := Lib.hid (fun W => routes_any none 0 0 (fun _ => []) W (rows_none W ksStep) (by omega))
    go_upto_region 13 with (first | go_skip | (go_at_call 13; refine (HRN.out _).mono ?_; rintro e W2 ⟨gu, mu0, u0, rfl, hM6, hTu, hu0⟩; replace hM := hM.new_ hM6; clear hM6; dsimp only))
    obtain ⟨rfl, hg0⟩ := hu0 rfl
    have HTU := Lib.hid hTu
    have HG0 := Lib.hid (show ∀ x, (u0.get x).isSome = true ↔ x ∈ (t.lst []).drop m2 from fun x => by rw [hg0, List.drop_of_length_le (by rw [← HL.out, HLN.out]; exact Nat.le_refl _)]; simp)
    clear hTu hu0 hg0 HRN
    replace hM : Mem w W2 (rowR 2 cPa (.slice O m2 oc) l :: atR gr 25 [.int .u32 x1, .int .i64 x2] :: (t2.res ++ u0.res)) := hM.perm List.perm_append_comm
    go_upto_region 14 with (fail)
    go_loopg [18] m2 (fun gh i wr => ∃ (k mu : Nat) (u : RT), gh = k ∧ k ≤ m2 ∧ i = .int .i64 ((k : Int) - 1) ∧ Mem w wr (rowR 2 cPa (.slice O m2 oc) l :: atR gr 25 [.int .u32 x1, .int .i64 x2] :: (t2.res ++ u.res)) ∧ Hid (Tab gu u mu) ∧ Hid (mu + k = m2) ∧ Hid (∀ x, (u.get x).isSome = true ↔ x ∈ (t.lst []).drop k))
    case atStart => exact ⟨m2, 0, u0, rfl, by omega, by go_num, hM, HTU, Lib.hid (by omega), HG0⟩
    case round =>
      clear hM HTU HG0
      obtain ⟨k, mu, u, hgk, hk, rfl, hM, HTU, HMU, HGU⟩ := hrel
      have HGK := Lib.hid hgk
      clear hgk
      cases k with
      | succ k =>
        have ek : ((k + 1 : Nat) : Int) - 1 = k := by omega
        rw [ek]
        clear ek
        obtain ⟨q, hq⟩ : ∃ q, l[k]? = some q := ⟨l[k]'(by rw [HLN.out]; omega), List.getElem?_eq_getElem (by rw [HLN.out]; omega)⟩
        have hqm := lst_mem HT.out (q := q) (HL.out ▸ List.mem_of_getElem? hq)
        have hWr : Win wr 0 2 (.slice O m2 oc) l.length (l.flatMap cPa) := hM.row (f := cPa) (rs := l) 0 rfl
        obtain ⟨gO, offO, cO, hv, hWA⟩ := hWr.pos (by rw [HLN.out]; omega)
        injection hv with hv1 hv3 hv2
        clear hv3
        subst hv1 hv2
        have HR0 := Lib.hid (fun W (h : Win W 0 2 (.slice (some ⟨gO, offO, none⟩) m2 oc) l.length (l.flatMap cPa)) => row_range (f := cPa) (size := 2) (fun _ => rfl) h k q hq)
        have hr0 : wr.cell? ⟨gO, offO + k * 2, none⟩ = some (.int .u32 (num q)) := HR0.out _ hWr 0 _ rfl
        have hnq := num_lt hqm.1
        have hql := hqm.1
        have HQ := Lib.hid (show (t.lst [])[k]? = some q from HL.out ▸ hq)
        have hlg := hWA.lt
        clear hWr hWA hq hqm
        have HF := Lib.hid (fun W h => Find_any g m2 t2 (num q) W h HT2.out (by omega))
        obtain ⟨y1, hy1⟩ : ∃ z, oA (num q) (bst t2.get (num q) 33) = z := ⟨_, rfl⟩
        obtain ⟨y2, hy2⟩ : ∃ z, oN (bst t2.get (num q) 33) = z := ⟨_, rfl⟩
        obtain ⟨y3, hy3⟩ : ∃ z, oB (bst t2.get (num q) 33) = z := ⟨_, rfl⟩
        obtain ⟨y4, hy4⟩ : ∃ z, oV (bst t2.get (num q) 33) = z := ⟨_, rfl⟩
        rw [hy1, hy2, hy3, hy4] at HF
        clear hy1 hy2 hy3 hy4
        have hT4 : -9223372036854775808 ≤ y4 ∨ True := .inr trivial
        clear hT4
        have HA := Lib.hid (fun W h => Add_any gu mu u (num q) q.length y4 W h HTU.out (by omega) ⟨by omega, by omega⟩)
        have HA2 := Lib.hid (fun W h => (HA.out W h).mono (fun e w' h2 => (by
          obtain ⟨e', u', mu', he, h3, h4, h5⟩ := h2
          obtain ⟨h6, h7, h8⟩ := add_next HT.out HQ.out HMU.out HGU.out h5
          subst h6
          exact ⟨u', mu', he, h3, h4, h7, h8⟩ : ∃ (u' : RT) (mu' : Nat), e = .returned (.int .i64 0) ∧ MemX (blkE u.res) W w' u'.res ∧ Tab gu u' mu' ∧ mu' + k = m2 ∧ ∀ x, (u'.get x).isSome = true ↔ x ∈ (t.lst []).drop k)))
        clear HA
        go_upto_region 17 with (first | go_skip | (go_at_call 14; refine (HF.out _ (front_hand (_ :: _ :: u.res) (hM.perm (List.Perm.cons _ (List.Perm.cons _ List.perm_append_comm))))).mono ?_; rintro e W ⟨rfl, hb⟩; replace hM := hM.kept hb; clear hb; dsimp only) | (with_reducible refine at_alloc_ (T := 25) ?_); refine wpList_alloc_mem rfl 25 rfl _ zv_Prefix _ rfl hM ?_; clear hM; intro gN W hM; replace hM := last_front hM | (with_reducible refine at_store_ (T := 25) ?_); refine wpList_store_mem rfl 25 _ _ rfl 0 _ _ _ _ hM rfl rfl rfl rfl sz_Prefix rfl ?_; clear hM; intro W hM; simp only [List.set_cons_zero] at hM)
        replace hM : Mem w W (atR gN 25 [.int .u32 y1, .int .i64 y2] :: rowR 2 cPa (.slice (some ⟨gO, offO, none⟩) m2 oc) l :: atR gr 25 [.int .u32 x1, .int .i64 x2] :: (t2.res ++ u.res)) := hM
        have hr1 := HR0.out W (hM.row (f := cPa) (rs := l) 1 rfl)
        clear hr0
        go_wp2_with (first | go_skip | ((with_reducible refine at_load_ (T := 25) ?_); refine wpList_load_mid rfl 25 _ rfl gO (offO + k * 2) rfl (cPa q) _ hr1 Try.underlying25 rfl sz_Prefix ?_) | (go_at_call 16; refine (HA2.out _ (front_hand (_ :: _ :: _ :: t2.res) hM)).mono ?_; rintro e W ⟨u', mu', rfl, hM6, hT', hm', hG'⟩; replace hM := front_back (_ :: _ :: _ :: t2.res) hM hM6; clear hM6 hr1; dsimp only))
        have HT' := Lib.hid hT'
        have HM' := Lib.hid hm'
        have HG' := Lib.hid hG'
        clear hT' hm' hG'
        replace hM : Mem w W (rowR 2 cPa (.slice (some ⟨gO, offO, none⟩) m2 oc) l :: atR gr 25 [.int .u32 x1, .int .i64 x2] :: (t2.res ++ u'.res)) := (show Mem w W ([_] ++ (rowR 2 cPa (.slice (some ⟨gO, offO, none⟩) m2 oc) l :: atR gr 25 [.int .u32 x1, .int .i64 x2] :: (t2.res ++ u'.res))) from hM).drop_
        go_roundg k
        case measure => have := HGK.out; omega
        case rel => exact ⟨k, mu', u', rfl, by omega, rfl, hM, HT', HM', HG'⟩
      | zero =>
        have ek : ((0 : Nat) : Int) - 1 = -1 := by omega
        rw [ek]
        clear ek
        have hss := same_set HT.out HGU.out
        obtain ⟨h1, h2, h3⟩ := oA_fst (a := c) (o := bst u.get c 33) (o' := o) (by have h7 := bst_fst (a := c) (fun i => hss (path c i)) 33; rw [HO.out] at h7; exact h7)
        have hls : u.lst [] = l := by rw [HL.out]; exact RT.lst_ext u t [] hss
        have hmu := HMU.out
        rw [Nat.add_zero] at hmu
        subst hmu
        have HF := Lib.hid (fun W h => Find_any gu mu u c W h HTU.out (by omega))
        rw [h1, h2, h3, HX1.out, HX2.out, HX3.out] at HF
        have HAL := Lib.hid (fun W h => All_any gu mu u W h HTU.out)
        rw [hls] at HAL
        generalize oV (bst u.get c 33) = y4 at *
        have HEQ := Lib.hid (fun W => (show (Op.equalIn 10000 25 (.agg #[.int .u32 x1, .int .i64 x2]) (.agg #[.int .u32 x1, .int .i64 x2])).run Try.prog W = .ok true W from eqT_Prefix ⟨x1, x2⟩ W))
        clear hss h1 h2 h3 hls
        go_upto_region 20 with         (first
          | go_skip
          | (go_at_call 14; refine (HF.out _ (front_hand (_ :: _ :: t2.res) hM)).mono ?_; rintro e W ⟨rfl, hb⟩; replace hM := hM.kept hb; clear hb; dsimp only)
          | ((with_reducible refine at_alloc_ (T := 25) ?_); refine wpList_alloc_mem rfl 25 rfl _ zv_Prefix _ rfl hM ?_; clear hM; intro gN W hM; replace hM := last_front hM)
          | ((with_reducible refine at_store_ (T := 25) ?_); refine wpList_store_mem rfl 25 _ _ rfl 0 _ _ _ _ hM rfl rfl rfl rfl sz_Prefix rfl ?_; clear hM; intro W hM; simp only [List.set_cons_zero] at hM)
          | ((with_reducible refine at_box_ ?_); refine wpList_box_mem rfl _ _ rfl _ rfl hM ?_; clear hM; intro gb W hM; first | (simp only [List.nil_append] at hM) | (simp only [List.cons_append, List.nil_append] at hM)))
        obtain ⟨gv, hgv⟩ : ∃ z, z = gN := ⟨_, rfl⟩
        subst hgv
        replace hM : Mem w W (atR gv 25 [.int .u32 x1, .int .i64 x2] :: rowR 2 cPa (.slice O mu oc) l :: atR gr 25 [.int .u32 x1, .int .i64 x2] :: (t2.res ++ u.res)) := hM
        go_wp2_with (first
          | go_skip
          | ((with_reducible refine at_eq_ (T := 25) ?_); go_loud (refine wpList_eq_mem (by go_simp) 25 _ _ _ rfl _ _ rfl rfl eg_Prefix _ (HEQ.out) ?_))
          | (go_at_call 17; refine (HAL.out _ (front_hand (_ :: _ :: _ :: t2.res) hM)).mono ?_; rintro e W ⟨O2, oc2, rfl, hM6⟩; replace hM := last_first (front_back (_ :: _ :: _ :: t2.res) hM hM6); clear hM6; dsimp only; replace hM : Mem w W (rowR 2 cPa (.slice O2 mu oc2) l :: atR gv 25 [.int .u32 x1, .int .i64 x2] :: rowR 2 cPa (.slice O mu oc) l :: atR gr 25 [.int .u32 x1, .int .i64 x2] :: (t2.res ++ u.res)) := hM)
          | (go_at_call 19; refine (HEP.out _ _ _ (hM.perm (eq_perm2 _ _ _ _)).hand).mono ?_; rintro e W ⟨rfl, hM6⟩; replace hM := (hM.perm (eq_perm2 _ _ _ _)).back hM6; clear hM6; dsimp only; replace hM : Mem w W (atR gv 25 [.int .u32 x1, .int .i64 x2] :: rowR 2 cPa (.slice O mu oc) l :: atR gr 25 [.int .u32 x1, .int .i64 x2] :: (t2.res ++ u.res)) := (show Mem w W ([_] ++ (atR gv 25 [.int .u32 x1, .int .i64 x2] :: rowR 2 cPa (.slice O mu oc) l :: atR gr 25 [.int .u32 x1, .int .i64 x2] :: (t2.res ++ u.res))) from hM.perm (eq_perm2 _ _ _ _).symm).drop_)
          | ((with_reducible refine at_box_ ?_); refine wpList_box_mem rfl _ _ rfl _ rfl hM ?_; clear hM; intro gb W hM; first | (simp only [List.nil_append] at hM) | (simp only [List.cons_append, List.nil_append] at hM))
          | ((with_reducible refine at_alloc_ (T := 25) ?_); refine wpList_alloc_mem rfl 25 rfl _ zv_Prefix _ rfl hM ?_; clear hM; intro gb W hM; first | (simp only [List.nil_append] at hM) | (simp only [List.cons_append, List.nil_append] at hM))
          | ((with_reducible refine at_load_ (T := 25) ?_); refine at_wanted_ (by rfl) ?_; first | (refine wpList_loadg_mem (by go_simp) 25 _ rfl 0 _ _ _ hM rfl rfl _ Try.underlying25 rfl sz_Prefix ?_) | (refine wpList_loadg_mem (by go_simp) 25 _ rfl 1 _ _ _ hM rfl rfl _ Try.underlying25 rfl sz_Prefix ?_) | (refine wpList_loadg_mem (by go_simp) 25 _ rfl 2 _ _ _ hM rfl rfl _ Try.underlying25 rfl sz_Prefix ?_))
          | ((with_reducible refine at_store_ (T := 25) ?_); first | (refine wpList_store_mem rfl 25 _ _ rfl 0 _ _ _ _ hM rfl rfl rfl rfl sz_Prefix rfl ?_; clear hM; intro W hM; simp only [List.set_cons_zero] at hM) | (refine wpList_store_mem rfl 25 _ _ rfl 1 _ _ _ _ hM rfl rfl rfl rfl sz_Prefix rfl ?_; clear hM; intro W hM; simp only [List.set_cons_succ, List.set_cons_zero] at hM) | (refine wpList_store_mem rfl 25 _ _ rfl 2 _ _ _ _ hM rfl rfl rfl rfl sz_Prefix rfl ?_; clear hM; intro W hM; simp only [List.set_cons_succ, List.set_cons_zero] at hM)))
        go_ret
        exact ⟨rfl, hM.b⟩
end Go.Proofs.Ytalfdbhpaonfjaa
