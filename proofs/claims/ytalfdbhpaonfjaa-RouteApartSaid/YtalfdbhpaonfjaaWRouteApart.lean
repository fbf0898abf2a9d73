/- The walk of RouteApart: it returns true. Written by my genrtw.py. -/
import Derived.Test.YtalfdbhpaonfjaaRtJ
import Derived.Test.YtalfdbhpaonfjaaKit
import Derived.Test.YtalfdbhpaonfjaaDat
namespace Go.Proofs.Ytalfdbhpaonfjaa
open Go.RowKit Go.Lib
set_option linter.unusedVariables false
set_option linter.unusedSimpArgs false

set_option maxRecDepth 100000 in
set_option maxHeartbeats 8000000 in
theorem w_RouteApart (A0 : Option Addr) (n0 c0 : Nat) (css0 : Nat → List Value) (a1a : Int) (a1b : Int) (a2 : Int) (a3 : Int) (w : World) (hR0 : Rows_ w A0 n0 ksStep css0) (hl0 : n0 ≤ 140737488351232) (ha1a : 0 ≤ a1a) (ha1a' : a1a ≤ 4294967295) (ha1b : -9223372036854775808 ≤ a1b) (ha1b' : a1b ≤ 9223372036854775807) (ha2 : -9223372036854775808 ≤ a2) (ha2' : a2 ≤ 9223372036854775807) (ha3 : 0 ≤ a3) (ha3' : a3 ≤ 4294967295) :
    Calls Try.prog 3 #[.slice A0 n0 c0, .agg #[.int .u32 a1a, .int .i64 a1b], .int .i64 a2, .int .u32 a3] w fun e w' => e = .returned (.bool true) ∧ Below w.heap.size w w' := by
  obtain ⟨a, rfl⟩ := Int.eq_ofNat_of_zero_le ha1a
  obtain ⟨c, rfl⟩ := Int.eq_ofNat_of_zero_le ha3
  have hM := Mem.nil w
  go_enter Try.func3, Try.ntmps3
  go_upto_region 1 with         (first
          | go_skip
          | ((with_reducible refine at_box_ ?_); refine wpList_box_mem rfl _ _ rfl _ rfl hM ?_; clear hM; intro gb W hM; first | (simp only [List.nil_append] at hM) | (simp only [List.cons_append, List.nil_append] at hM))
          | ((with_reducible refine at_alloc_ (T := 25) ?_); refine wpList_alloc_mem rfl 25 rfl _ zv_Prefix _ rfl hM ?_; clear hM; intro gb W hM; first | (simp only [List.nil_append] at hM) | (simp only [List.cons_append, List.nil_append] at hM))
          | ((with_reducible refine at_load_ (T := 25) ?_); refine at_wanted_ (by rfl) ?_; refine wpList_loadg_mem (by go_simp) 25 _ rfl 0 _ _ _ hM rfl rfl _ Try.underlying25 rfl sz_Prefix ?_)
          | ((with_reducible refine at_store_ (T := 25) ?_); refine wpList_store_mem rfl 25 _ _ rfl 0 _ _ _ _ hM rfl rfl rfl rfl sz_Prefix rfl ?_; clear hM; intro W hM; simp only [List.set_cons_zero] at hM))
  obtain ⟨gp, hgp⟩ : ∃ z, z = gb := ⟨_, rfl⟩
  subst hgp
  have hRW := rows_kept hR0 hM.b
  have HRT := Lib.hid (routes_any A0 n0 c0 css0 W hRW hl0)
  clear hRW
  go_upto_region 2 with (first | (go_at_call 13; refine HRT.out.mono ?_; rintro e W2 ⟨g, m, t, rfl, hM2, hT⟩; replace hM := hM.new_ hM2; clear hM2; dsimp only))
  replace hM := res_back hM
  have HT := Lib.hid hT
  have HF := Lib.hid (fun W h => Find_any g m t c W h hT (by omega))
  clear hT
  generalize ho : bst t.get c 33 = o at *
  have HO := Lib.hid ho
  clear ho
  go_upto_region 5 with         (first
          | go_skip
          | (go_at_call 14; refine (HF.out _ (front_hand [_] hM)).mono ?_; rintro e W ⟨rfl, hb⟩; replace hM := hM.kept hb; clear hb; dsimp only)
          | ((with_reducible refine at_alloc_ (T := 25) ?_); refine wpList_alloc_mem rfl 25 rfl _ zv_Prefix _ rfl hM ?_; clear hM; intro gN W hM; replace hM := last_front hM)
          | ((with_reducible refine at_store_ (T := 25) ?_); refine wpList_store_mem rfl 25 _ _ rfl 0 _ _ _ _ hM rfl rfl rfl rfl sz_Prefix rfl ?_; clear hM; intro W hM; simp only [List.set_cons_zero] at hM)
          | ((with_reducible refine at_box_ ?_); refine wpList_box_mem rfl _ _ rfl _ rfl hM ?_; clear hM; intro gb W hM; first | (simp only [List.nil_append] at hM) | (simp only [List.cons_append, List.nil_append] at hM)))
  obtain ⟨gr, hgr⟩ : ∃ z, z = gN := ⟨_, rfl⟩
  subst hgr
  replace hM : Mem w W (atR gr 25 [.int .u32 (oA c o), .int .i64 (oN o)] :: atR gp 25 [.int .u32 a, .int .i64 a1b] :: t.res) := hM
  have HH := Lib.hid (fun W => Has_any a a1b c W (by omega) (by omega) (by omega) (by omega) (by omega) (by omega))
  cases hb : hasB a a1b c
  · rw [hb] at HH
    have HHB := Lib.hid hb
    clear hb
    have HA := Lib.hid (fun W h => Add_any g m t a a1b a2 W h HT.out (by omega) ⟨by omega, by omega⟩)
    go_upto_region 7 with         (first
          | go_skip
          | (go_at_call 15; go_must (refine (HH.out _).mono ?_; rintro e W ⟨rfl, hb⟩; replace hM := hM.kept hb; clear hb))
          | ((with_reducible refine at_box_ ?_); refine wpList_box_mem rfl _ _ rfl _ rfl hM ?_; clear hM; intro gb W hM; first | (simp only [List.nil_append] at hM) | (simp only [List.cons_append, List.nil_append] at hM))
          | ((with_reducible refine at_alloc_ (T := 25) ?_); refine wpList_alloc_mem rfl 25 rfl _ zv_Prefix _ rfl hM ?_; clear hM; intro gb W hM; first | (simp only [List.nil_append] at hM) | (simp only [List.cons_append, List.nil_append] at hM))
          | ((with_reducible refine at_load_ (T := 25) ?_); refine at_wanted_ (by rfl) ?_; first | (refine wpList_loadg_mem (by go_simp) 25 _ rfl 0 _ _ _ hM rfl rfl _ Try.underlying25 rfl sz_Prefix ?_) | (refine wpList_loadg_mem (by go_simp) 25 _ rfl 1 _ _ _ hM rfl rfl _ Try.underlying25 rfl sz_Prefix ?_))
          | ((with_reducible refine at_store_ (T := 25) ?_); first | (refine wpList_store_mem rfl 25 _ _ rfl 0 _ _ _ _ hM rfl rfl rfl rfl sz_Prefix rfl ?_; clear hM; intro W hM; simp only [List.set_cons_zero] at hM) | (refine wpList_store_mem rfl 25 _ _ rfl 1 _ _ _ _ hM rfl rfl rfl rfl sz_Prefix rfl ?_; clear hM; intro W hM; simp only [List.set_cons_succ, List.set_cons_zero] at hM)))
    go_upto_region 8 with         (first
          | go_skip
          | (go_at_call 16; refine (HA.out _ (front_hand [_, _] hM)).mono ?_; rintro e W ⟨e', t', m', rfl, hM6, hT', hR'⟩; replace hM := front_back [_, _] hM hM6; clear hM6; dsimp only)
          | ((with_reducible refine at_box_ ?_); refine wpList_box_mem rfl _ _ rfl _ rfl hM ?_; clear hM; intro gb W hM; first | (simp only [List.nil_append] at hM) | (simp only [List.cons_append, List.nil_append] at hM))
          | ((with_reducible refine at_alloc_ (T := 25) ?_); refine wpList_alloc_mem rfl 25 rfl _ zv_Prefix _ rfl hM ?_; clear hM; intro gb W hM; first | (simp only [List.nil_append] at hM) | (simp only [List.cons_append, List.nil_append] at hM))
          | ((with_reducible refine at_load_ (T := 25) ?_); refine at_wanted_ (by rfl) ?_; first | (refine wpList_loadg_mem (by go_simp) 25 _ rfl 0 _ _ _ hM rfl rfl _ Try.underlying25 rfl sz_Prefix ?_) | (refine wpList_loadg_mem (by go_simp) 25 _ rfl 1 _ _ _ hM rfl rfl _ Try.underlying25 rfl sz_Prefix ?_))
          | ((with_reducible refine at_store_ (T := 25) ?_); first | (refine wpList_store_mem rfl 25 _ _ rfl 0 _ _ _ _ hM rfl rfl rfl rfl sz_Prefix rfl ?_; clear hM; intro W hM; simp only [List.set_cons_zero] at hM) | (refine wpList_store_mem rfl 25 _ _ rfl 1 _ _ _ _ hM rfl rfl rfl rfl sz_Prefix rfl ?_; clear hM; intro W hM; simp only [List.set_cons_succ, List.set_cons_zero] at hM)))
    replace hM : Mem w W (atR gr 25 [.int .u32 (oA c o), .int .i64 (oN o)] :: atR gp 25 [.int .u32 a, .int .i64 a1b] :: t'.res) := hM
    have HB := Lib.hid ((add_apart hR' (by omega) HHB.out).trans HO.out)
    have HF2 := Lib.hid (fun W h => Find_any g m' t' c W h hT' (by omega))
    rw [HB.out] at HF2
    clear hT' hR'
    go_upto_region 9 with         (first
          | go_skip
          | (go_at_call 14; refine (HF2.out _ (front_hand [_, _] hM)).mono ?_; rintro e W ⟨rfl, hb⟩; replace hM := hM.kept hb; clear hb; dsimp only)
          | ((with_reducible refine at_alloc_ (T := 25) ?_); refine wpList_alloc_mem rfl 25 rfl _ zv_Prefix _ rfl hM ?_; clear hM; intro gN W hM; replace hM := last_front hM)
          | ((with_reducible refine at_store_ (T := 25) ?_); refine wpList_store_mem rfl 25 _ _ rfl 0 _ _ _ _ hM rfl rfl rfl rfl sz_Prefix rfl ?_; clear hM; intro W hM; simp only [List.set_cons_zero] at hM)
          | ((with_reducible refine at_box_ ?_); refine wpList_box_mem rfl _ _ rfl _ rfl hM ?_; clear hM; intro gb W hM; first | (simp only [List.nil_append] at hM) | (simp only [List.cons_append, List.nil_append] at hM)))
    obtain ⟨gq, hgq⟩ : ∃ z, z = gN := ⟨_, rfl⟩
    subst hgq
    replace hM : Mem w W (atR gq 25 [.int .u32 (oA c o), .int .i64 (oN o)] :: atR gr 25 [.int .u32 (oA c o), .int .i64 (oN o)] :: atR gp 25 [.int .u32 a, .int .i64 a1b] :: t'.res) := hM
    generalize oA c o = x1 at *
    generalize oN o = x2 at *
    generalize oB o = x3 at *
    generalize oV o = x4 at *
    go_wp2_with (first
      | go_skip
      | ((with_reducible refine at_eq_ (T := 25) ?_); refine wpList_eq_mem (by go_simp) 25 _ _ _ rfl _ _ rfl rfl eg_Prefix _ (eqT_Prefix ⟨x1, x2⟩ _) ?_)
      | ((with_reducible refine at_box_ ?_); refine wpList_box_mem rfl _ _ rfl _ rfl hM ?_; clear hM; intro gb W hM; first | (simp only [List.nil_append] at hM) | (simp only [List.cons_append, List.nil_append] at hM))
      | ((with_reducible refine at_alloc_ (T := 25) ?_); refine wpList_alloc_mem rfl 25 rfl _ zv_Prefix _ rfl hM ?_; clear hM; intro gb W hM; first | (simp only [List.nil_append] at hM) | (simp only [List.cons_append, List.nil_append] at hM))
      | ((with_reducible refine at_load_ (T := 25) ?_); refine at_wanted_ (by rfl) ?_; first | (refine wpList_loadg_mem (by go_simp) 25 _ rfl 0 _ _ _ hM rfl rfl _ Try.underlying25 rfl sz_Prefix ?_) | (refine wpList_loadg_mem (by go_simp) 25 _ rfl 1 _ _ _ hM rfl rfl _ Try.underlying25 rfl sz_Prefix ?_) | (refine wpList_loadg_mem (by go_simp) 25 _ rfl 2 _ _ _ hM rfl rfl _ Try.underlying25 rfl sz_Prefix ?_))
      | ((with_reducible refine at_store_ (T := 25) ?_); first | (refine wpList_store_mem rfl 25 _ _ rfl 0 _ _ _ _ hM rfl rfl rfl rfl sz_Prefix rfl ?_; clear hM; intro W hM; simp only [List.set_cons_zero] at hM) | (refine wpList_store_mem rfl 25 _ _ rfl 1 _ _ _ _ hM rfl rfl rfl rfl sz_Prefix rfl ?_; clear hM; intro W hM; simp only [List.set_cons_succ, List.set_cons_zero] at hM) | (refine wpList_store_mem rfl 25 _ _ rfl 2 _ _ _ _ hM rfl rfl rfl rfl sz_Prefix rfl ?_; clear hM; intro W hM; simp only [List.set_cons_succ, List.set_cons_zero] at hM)))
    go_ret
    exact ⟨rfl, hM.b⟩
  · rw [hb] at HH
    clear hb
    go_wp2_with (first
      | go_skip
      | (go_at_call 15; go_must (refine (HH.out _).mono ?_; rintro e W ⟨rfl, hb⟩; replace hM := hM.kept hb; clear hb))
      | ((with_reducible refine at_box_ ?_); refine wpList_box_mem rfl _ _ rfl _ rfl hM ?_; clear hM; intro gb W hM; first | (simp only [List.nil_append] at hM) | (simp only [List.cons_append, List.nil_append] at hM))
      | ((with_reducible refine at_alloc_ (T := 25) ?_); refine wpList_alloc_mem rfl 25 rfl _ zv_Prefix _ rfl hM ?_; clear hM; intro gb W hM; first | (simp only [List.nil_append] at hM) | (simp only [List.cons_append, List.nil_append] at hM))
      | ((with_reducible refine at_load_ (T := 25) ?_); refine at_wanted_ (by rfl) ?_; first | (refine wpList_loadg_mem (by go_simp) 25 _ rfl 0 _ _ _ hM rfl rfl _ Try.underlying25 rfl sz_Prefix ?_) | (refine wpList_loadg_mem (by go_simp) 25 _ rfl 1 _ _ _ hM rfl rfl _ Try.underlying25 rfl sz_Prefix ?_))
      | ((with_reducible refine at_store_ (T := 25) ?_); first | (refine wpList_store_mem rfl 25 _ _ rfl 0 _ _ _ _ hM rfl rfl rfl rfl sz_Prefix rfl ?_; clear hM; intro W hM; simp only [List.set_cons_zero] at hM) | (refine wpList_store_mem rfl 25 _ _ rfl 1 _ _ _ _ hM rfl rfl rfl rfl sz_Prefix rfl ?_; clear hM; intro W hM; simp only [List.set_cons_succ, List.set_cons_zero] at hM)))
    go_ret
    exact ⟨rfl, hM.b⟩
end Go.Proofs.Ytalfdbhpaonfjaa
