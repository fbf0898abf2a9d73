/- the walk of AddrBack. -/
import Derived.Test.YtamckbjckgpniaaDoorAdV
namespace Go.Proofs.YtamckbjckgpniaaDoor
open Go.RowKit Go.Lib
set_option linter.unusedVariables false
set_option linter.unusedSimpArgs false

theorem prs_two (l : List UInt8) : ((prs l).2 = 0 ∧ prt (prs l).1 = l) ∨ ((prs l).2 = 4 ∧ (prs l).1 = 0) := by
  rcases prs_or l with ⟨c, _, h2, h3⟩ | h2
  · rw [h2]; exact .inl ⟨rfl, h3⟩
  · rw [h2]; exact .inr ⟨rfl, rfl⟩
theorem ppx_two (l : List UInt8) : ((ppx l).2 = 0 ∧ chkZ (ppx l).1.1 (ppx l).1.2 = 0) ∨ (ppx l).2 = 4 := by
  unfold ppx
  split
  · rename_i h; exact .inl ⟨rfl, h.2.2.1⟩
  · exact .inr rfl
theorem ppx_bd (l : List UInt8) : (0 ≤ (ppx l).1.1 ∧ (ppx l).1.1 ≤ 4294967295) ∧ (-9223372036854775808 ≤ (ppx l).1.2 ∧ (ppx l).1.2 ≤ 9223372036854775807) := by
  unfold ppx
  split
  · exact ⟨prs_bd _, atN_bd _⟩
  · exact ⟨⟨by decide, by decide⟩, by decide, by decide⟩
theorem ppx_nil : (ppx []).2 = 4 := by
  unfold ppx
  rw [if_neg (fun h => absurd h.1 (by decide))]
theorem ppx_pp {a n : Int} (ha : 0 ≤ a ∧ a ≤ 4294967295) (h : chkZ a n = 0) : ppx (ppL a n) = ((a, n), 0) := by
  obtain ⟨h1, h2, _⟩ := chk_zero h
  have e : ppL a n = prt a ++ 47 :: itoa n := by unfold ppL; rw [if_pos h]
  have hcut : cut (ppL a n) [47] = (prt a, itoa n, true) := by rw [e]; exact cut_app 47 _ _ (prt_ne a 47 (by decide))
  unfold ppx
  rw [hcut]
  dsimp only
  have hn : atN (itoa n) = n := by unfold atN; rw [atoi_itoa n ⟨h1, h2⟩]
  have hb : atB (itoa n) = true := by unfold atB; rw [atoi_itoa n ⟨h1, h2⟩]
  rw [prs_prt a ha, hn, hb]
  dsimp only
  rw [if_pos ⟨rfl, rfl, h, rfl⟩]
set_option maxRecDepth 100000 in
set_option maxHeartbeats 4000000 in
theorem w_AddrBack (a0 : Int) (a1a : Int) (a1b : Int) (s2 : ByteArray) (w : World) (hAd : Ad w) (ha0 : 0 ≤ a0) (ha0' : a0 ≤ 4294967295) (ha1a : 0 ≤ a1a) (ha1a' : a1a ≤ 4294967295) (ha1b : -9223372036854775808 ≤ a1b) (ha1b' : a1b ≤ 9223372036854775807) (hs2 : s2.size ≤ 140737488351232) :
    Calls Tryd.prog 3 #[.int .u32 a0, .agg #[.int .u32 a1a, .int .i64 a1b], .string s2] w fun e w' => e = .returned (.bool true) ∧ Below w.heap.size w w' := by
  have HAD := Lib.hid hAd
  have hM := Mem.nil w
  obtain ⟨A, hA⟩ : ∃ A : ByteArray, A = ⟨(prt a0).toArray⟩ := ⟨_, rfl⟩
  have hAl : A.data.toList = prt a0 := by rw [hA]
  have hAz : A.size ≤ 15 := by rw [← ba_len, hAl]; exact prt_len a0
  have HP1 := Lib.hid (fun (W : World) (h : Ad W) => (by have h2 := Print_any a0 W ⟨ha0, ha0'⟩ h; rw [← hA] at h2; exact h2 : Calls Tryd.prog 5 #[.int .u32 a0] W fun e w' => e = .returned (.string A) ∧ Below W.heap.size W w'))
  have HP2 := Lib.hid (fun (W : World) (h : Ad W) => (by have h2 := Parse_any A W (by omega) h; rw [hAl, prs_prt a0 ⟨ha0, ha0'⟩] at h2; exact h2 : Calls Tryd.prog 4 #[.string A] W fun e w' => e = .returned (.tuple #[.int .u32 a0, .int .i64 0]) ∧ Below W.heap.size W w'))
  have hsb := prs_bd s2.data.toList
  have hs3 := prs_two s2.data.toList
  obtain ⟨c, hc⟩ : ∃ c, c = (prs s2.data.toList).1 := ⟨_, rfl⟩
  obtain ⟨f, hf⟩ : ∃ c, c = (prs s2.data.toList).2 := ⟨_, rfl⟩
  rw [← hc] at hsb hs3
  rw [← hf] at hs3
  have HP3 := Lib.hid (fun (W : World) (h : Ad W) => (by have h2 := Parse_any s2 W (by omega) h; rw [← hc, ← hf] at h2; exact h2 : Calls Tryd.prog 4 #[.string s2] W fun e w' => e = .returned (.tuple #[.int .u32 c, .int .i64 f]) ∧ Below W.heap.size W w'))
  obtain ⟨C, hC⟩ : ∃ A : ByteArray, A = ⟨(prt c).toArray⟩ := ⟨_, rfl⟩
  have HP4 := Lib.hid (fun (W : World) (h : Ad W) => (by have h2 := Print_any c W hsb h; rw [← hC] at h2; exact h2 : Calls Tryd.prog 5 #[.int .u32 c] W fun e w' => e = .returned (.string C) ∧ Below W.heap.size W w'))
  obtain ⟨k, hk⟩ : ∃ k, k = chkZ a1a a1b := ⟨_, rfl⟩
  obtain ⟨T, hT⟩ : ∃ T, T = ppS a1a a1b := ⟨_, rfl⟩
  have hTl : T.data.toList = ppL a1a a1b := by rw [hT]; exact ppS_list _ _
  have hTz : T.size ≤ 30 := by
    rw [← ba_len, hTl]
    unfold ppL
    split
    · rename_i h
      obtain ⟨h1, h2, _⟩ := chk_zero h
      have := prt_len a1a
      have := itoa_len a1b (by omega)
      simp only [List.length_append, List.length_cons]
      omega
    · exact Nat.zero_le _
  have HPP := Lib.hid (fun (W : World) (h : Ad W) => (by have h2 := PrintPrefix_any a1a a1b W ⟨ha1a, ha1a'⟩ ⟨ha1b, ha1b'⟩ h; rw [← hk, ← hT] at h2; exact h2 : Calls Tryd.prog 6 #[.agg #[.int .u32 a1a, .int .i64 a1b]] W fun e w' => e = .returned (.tuple #[.string T, .int .i64 k]) ∧ Below W.heap.size W w'))
  have HCK := Lib.hid (fun (W : World) => (by have h2 := Check_any a1a a1b W ha1a ha1a' ha1b ha1b'; rw [← hk] at h2; exact h2 : Calls Tryd.prog 8 #[.agg #[.int .u32 a1a, .int .i64 a1b]] W fun e w' => e = .returned (.int .i64 k) ∧ Below W.heap.size W w'))
  obtain ⟨⟨⟨q1, q2⟩, qe⟩, hq⟩ : ∃ q, q = ppx T.data.toList := ⟨_, rfl⟩
  have HX1 := Lib.hid (fun (W : World) (h : Ad W) => (by have h2 := ParsePrefix_any T W (by omega) h; rw [← hq] at h2; exact h2 : Calls Tryd.prog 7 #[.string T] W fun e w' => e = .returned (.tuple #[.agg #[.int .u32 q1, .int .i64 q2], .int .i64 qe]) ∧ Below W.heap.size W w'))
  have hrb := ppx_bd s2.data.toList
  have hr2 := ppx_two s2.data.toList
  obtain ⟨⟨⟨r1, r2⟩, g⟩, hr⟩ : ∃ q, q = ppx s2.data.toList := ⟨_, rfl⟩
  rw [← hr] at hrb hr2
  dsimp only at hrb hr2
  have HX2 := Lib.hid (fun (W : World) (h : Ad W) => (by have h2 := ParsePrefix_any s2 W (by omega) h; rw [← hr] at h2; exact h2 : Calls Tryd.prog 7 #[.string s2] W fun e w' => e = .returned (.tuple #[.agg #[.int .u32 r1, .int .i64 r2], .int .i64 g]) ∧ Below W.heap.size W w'))
  have HCR := Lib.hid (fun (W : World) => Check_any r1 r2 W hrb.1.1 hrb.1.2 hrb.2.1 hrb.2.2)
  have hkk : (k ≠ 0 ∧ T.toList.isEmpty = true ∧ qe = 4) ∨ (k = 0 ∧ q1 = a1a ∧ q2 = a1b ∧ qe = 0) := by
    by_cases h : k = 0
    · right
      have hz : chkZ a1a a1b = 0 := hk.symm.trans h
      rw [hTl, ppx_pp ⟨ha1a, ha1a'⟩ hz] at hq
      injection hq with h1 h2
      injection h1 with h3 h4
      exact ⟨h, h3, h4, h2⟩
    · left
      have hz : ¬ chkZ a1a a1b = 0 := fun e => h (hk.trans e)
      have hTn : T.data.toList = [] := by rw [hTl]; unfold ppL; rw [if_neg hz]
      refine ⟨h, str_none (by rw [← ba_len, hTn]; rfl), ?_⟩
      have h4 := ppx_nil
      rw [← hTn, ← hq] at h4
      exact h4
  have hff : (f = 0 ∧ (C.toList == s2.toList) = true) ∨ (f = 4 ∧ c = 0) := by
    rcases hs3 with ⟨h1, h2⟩ | h
    · left
      refine ⟨h1, ?_⟩
      rw [beq_iff_eq, ByteArray.toList_eq, ByteArray.toList_eq, hC, ← h2]
    · exact .inr h
  have HFF := Lib.hid hff
  have HKK := Lib.hid hkk
  have HR2 := Lib.hid hr2
  clear hAd hA hAl hAz hsb hs3 hc hf hC hk hT hTl hTz hq hrb hr2 hr hkk hff ha0 ha0' ha1a ha1a' ha1b ha1b' hs2
  go_enter Tryd.func3, Tryd.ntmps3
  go_upto_region 2 with         (first
          | go_skip
          | (go_at_call 5; refine (HP1.out _ (HAD.out.kept hM.b)).mono ?_; rintro e W ⟨rfl, hb⟩; replace hM := hM.kept hb; clear hb; dsimp only)
          | (go_at_call 4; refine (HP2.out _ (HAD.out.kept hM.b)).mono ?_; rintro e W ⟨rfl, hb⟩; replace hM := hM.kept hb; clear hb; dsimp only)
          | ((with_reducible refine at_box_ ?_); refine wpList_box_mem rfl _ _ rfl _ rfl hM ?_; clear hM; intro gb W hM; first | (simp only [List.nil_append] at hM) | (simp only [List.cons_append, List.nil_append] at hM))
          | ((with_reducible refine at_alloc_ (T := 24) ?_); refine wpList_alloc_mem rfl 24 rfl _ zv_Prefix _ rfl hM ?_; clear hM; intro gb W hM; first | (simp only [List.nil_append] at hM) | (simp only [List.cons_append, List.nil_append] at hM))
          | ((with_reducible refine at_load_ (T := 24) ?_); refine at_wanted_ (by rfl) ?_; first | (refine wpList_loadg_mem (by go_simp) 24 _ rfl 0 _ _ _ hM rfl rfl _ Tryd.underlying24 rfl sz_Prefix ?_) | (refine wpList_loadg_mem (by go_simp) 24 _ rfl 1 _ _ _ hM rfl rfl _ Tryd.underlying24 rfl sz_Prefix ?_) | (refine wpList_loadg_mem (by go_simp) 24 _ rfl 2 _ _ _ hM rfl rfl _ Tryd.underlying24 rfl sz_Prefix ?_) | (refine wpList_loadg_mem (by go_simp) 24 _ rfl 3 _ _ _ hM rfl rfl _ Tryd.underlying24 rfl sz_Prefix ?_))
          | ((with_reducible refine at_store_ (T := 24) ?_); first | (refine wpList_store_mem rfl 24 _ _ rfl 0 _ _ _ _ hM rfl rfl rfl rfl sz_Prefix rfl ?_; clear hM; intro W hM; simp only [List.set_cons_zero] at hM) | (refine wpList_store_mem rfl 24 _ _ rfl 1 _ _ _ _ hM rfl rfl rfl rfl sz_Prefix rfl ?_; clear hM; intro W hM; simp only [List.set_cons_succ, List.set_cons_zero] at hM) | (refine wpList_store_mem rfl 24 _ _ rfl 2 _ _ _ _ hM rfl rfl rfl rfl sz_Prefix rfl ?_; clear hM; intro W hM; simp only [List.set_cons_succ, List.set_cons_zero] at hM) | (refine wpList_store_mem rfl 24 _ _ rfl 3 _ _ _ _ hM rfl rfl rfl rfl sz_Prefix rfl ?_; clear hM; intro W hM; simp only [List.set_cons_succ, List.set_cons_zero] at hM)))
  clear HP1 HP2
  rcases HFF.out with ⟨rfl, hcs⟩ | ⟨rfl, rfl⟩
  all_goals
    go_upto_region 7 with         (first
          | go_skip
          | (go_at_call 4; refine (HP3.out _ (HAD.out.kept hM.b)).mono ?_; rintro e W ⟨rfl, hb⟩; replace hM := hM.kept hb; clear hb; dsimp only)
          | (go_at_call 5; refine (HP4.out _ (HAD.out.kept hM.b)).mono ?_; rintro e W ⟨rfl, hb⟩; replace hM := hM.kept hb; clear hb; dsimp only)
          | (go_at_call 6; refine (HPP.out _ (HAD.out.kept hM.b)).mono ?_; rintro e W ⟨rfl, hb⟩; replace hM := hM.kept hb; clear hb; dsimp only)
          | (go_at_call 7; refine (HX1.out _ (HAD.out.kept hM.b)).mono ?_; rintro e W ⟨rfl, hb⟩; replace hM := hM.kept hb; clear hb; dsimp only)
          | ((with_reducible refine at_box_ ?_); refine wpList_box_mem rfl _ _ rfl _ rfl hM ?_; clear hM; intro gb W hM; first | (simp only [List.nil_append] at hM) | (simp only [List.cons_append, List.nil_append] at hM))
          | ((with_reducible refine at_alloc_ (T := 24) ?_); refine wpList_alloc_mem rfl 24 rfl _ zv_Prefix _ rfl hM ?_; clear hM; intro gb W hM; first | (simp only [List.nil_append] at hM) | (simp only [List.cons_append, List.nil_append] at hM))
          | ((with_reducible refine at_load_ (T := 24) ?_); refine at_wanted_ (by rfl) ?_; first | (refine wpList_loadg_mem (by go_simp) 24 _ rfl 0 _ _ _ hM rfl rfl _ Tryd.underlying24 rfl sz_Prefix ?_) | (refine wpList_loadg_mem (by go_simp) 24 _ rfl 1 _ _ _ hM rfl rfl _ Tryd.underlying24 rfl sz_Prefix ?_) | (refine wpList_loadg_mem (by go_simp) 24 _ rfl 2 _ _ _ hM rfl rfl _ Tryd.underlying24 rfl sz_Prefix ?_) | (refine wpList_loadg_mem (by go_simp) 24 _ rfl 3 _ _ _ hM rfl rfl _ Tryd.underlying24 rfl sz_Prefix ?_) | (refine wpList_loadg_mem (by go_simp) 24 _ rfl 4 _ _ _ hM rfl rfl _ Tryd.underlying24 rfl sz_Prefix ?_))
          | ((with_reducible refine at_store_ (T := 24) ?_); first | (refine wpList_store_mem rfl 24 _ _ rfl 0 _ _ _ _ hM rfl rfl rfl rfl sz_Prefix rfl ?_; clear hM; intro W hM; simp only [List.set_cons_zero] at hM) | (refine wpList_store_mem rfl 24 _ _ rfl 1 _ _ _ _ hM rfl rfl rfl rfl sz_Prefix rfl ?_; clear hM; intro W hM; simp only [List.set_cons_succ, List.set_cons_zero] at hM) | (refine wpList_store_mem rfl 24 _ _ rfl 2 _ _ _ _ hM rfl rfl rfl rfl sz_Prefix rfl ?_; clear hM; intro W hM; simp only [List.set_cons_succ, List.set_cons_zero] at hM) | (refine wpList_store_mem rfl 24 _ _ rfl 3 _ _ _ _ hM rfl rfl rfl rfl sz_Prefix rfl ?_; clear hM; intro W hM; simp only [List.set_cons_succ, List.set_cons_zero] at hM) | (refine wpList_store_mem rfl 24 _ _ rfl 4 _ _ _ _ hM rfl rfl rfl rfl sz_Prefix rfl ?_; clear hM; intro W hM; simp only [List.set_cons_succ, List.set_cons_zero] at hM)))
    clear HP3 HP4 HPP HX1
    rcases HKK.out with ⟨hk, hT, rfl⟩ | ⟨rfl, rfl, rfl, rfl⟩
    · have t1 : (k != 0) = true := by simpa using hk
      have HK := Lib.hid hk
      clear hk
      go_upto_region 8 with         (first
          | go_skip
          | (go_at_call 7; refine (HX2.out _ (HAD.out.kept hM.b)).mono ?_; rintro e W ⟨rfl, hb⟩; replace hM := hM.kept hb; clear hb; dsimp only)
          | (go_at_call 8; refine (HCK.out _).mono ?_; rintro e W ⟨rfl, hb⟩; replace hM := hM.kept hb; clear hb; dsimp only)
          | ((with_reducible refine at_box_ ?_); refine wpList_box_mem rfl _ _ rfl _ rfl hM ?_; clear hM; intro gb W hM; first | (simp only [List.nil_append] at hM) | (simp only [List.cons_append, List.nil_append] at hM))
          | ((with_reducible refine at_alloc_ (T := 24) ?_); refine wpList_alloc_mem rfl 24 rfl _ zv_Prefix _ rfl hM ?_; clear hM; intro gb W hM; first | (simp only [List.nil_append] at hM) | (simp only [List.cons_append, List.nil_append] at hM))
          | ((with_reducible refine at_load_ (T := 24) ?_); refine at_wanted_ (by rfl) ?_; first | (refine wpList_loadg_mem (by go_simp) 24 _ rfl 0 _ _ _ hM rfl rfl _ Tryd.underlying24 rfl sz_Prefix ?_) | (refine wpList_loadg_mem (by go_simp) 24 _ rfl 1 _ _ _ hM rfl rfl _ Tryd.underlying24 rfl sz_Prefix ?_) | (refine wpList_loadg_mem (by go_simp) 24 _ rfl 2 _ _ _ hM rfl rfl _ Tryd.underlying24 rfl sz_Prefix ?_) | (refine wpList_loadg_mem (by go_simp) 24 _ rfl 3 _ _ _ hM rfl rfl _ Tryd.underlying24 rfl sz_Prefix ?_) | (refine wpList_loadg_mem (by go_simp) 24 _ rfl 4 _ _ _ hM rfl rfl _ Tryd.underlying24 rfl sz_Prefix ?_))
          | ((with_reducible refine at_store_ (T := 24) ?_); first | (refine wpList_store_mem rfl 24 _ _ rfl 0 _ _ _ _ hM rfl rfl rfl rfl sz_Prefix rfl ?_; clear hM; intro W hM; simp only [List.set_cons_zero] at hM) | (refine wpList_store_mem rfl 24 _ _ rfl 1 _ _ _ _ hM rfl rfl rfl rfl sz_Prefix rfl ?_; clear hM; intro W hM; simp only [List.set_cons_succ, List.set_cons_zero] at hM) | (refine wpList_store_mem rfl 24 _ _ rfl 2 _ _ _ _ hM rfl rfl rfl rfl sz_Prefix rfl ?_; clear hM; intro W hM; simp only [List.set_cons_succ, List.set_cons_zero] at hM) | (refine wpList_store_mem rfl 24 _ _ rfl 3 _ _ _ _ hM rfl rfl rfl rfl sz_Prefix rfl ?_; clear hM; intro W hM; simp only [List.set_cons_succ, List.set_cons_zero] at hM) | (refine wpList_store_mem rfl 24 _ _ rfl 4 _ _ _ _ hM rfl rfl rfl rfl sz_Prefix rfl ?_; clear hM; intro W hM; simp only [List.set_cons_succ, List.set_cons_zero] at hM)))
      have hc := hM.cells 0 rfl
      go_wp2_with fail
      refine (HCK.out _).mono ?_; rintro e W ⟨rfl, hb⟩; replace hM := hM.kept hb; clear hb hc; dsimp only
      go_wp2_with fail
      refine bodyPost_ret (v := .bool true) (by simp [results, Tryd.results3, go_sem]) rfl ?_
      exact ⟨rfl, hM.b⟩
    · go_upto_region 10 with         (first
          | go_skip
          | (go_at_call 7; refine (HX2.out _ (HAD.out.kept hM.b)).mono ?_; rintro e W ⟨rfl, hb⟩; replace hM := hM.kept hb; clear hb; dsimp only)
          | ((with_reducible refine at_box_ ?_); refine wpList_box_mem rfl _ _ rfl _ rfl hM ?_; clear hM; intro gb W hM; first | (simp only [List.nil_append] at hM) | (simp only [List.cons_append, List.nil_append] at hM))
          | ((with_reducible refine at_alloc_ (T := 24) ?_); refine wpList_alloc_mem rfl 24 rfl _ zv_Prefix _ rfl hM ?_; clear hM; intro gb W hM; first | (simp only [List.nil_append] at hM) | (simp only [List.cons_append, List.nil_append] at hM))
          | ((with_reducible refine at_load_ (T := 24) ?_); refine at_wanted_ (by rfl) ?_; first | (refine wpList_loadg_mem (by go_simp) 24 _ rfl 0 _ _ _ hM rfl rfl _ Tryd.underlying24 rfl sz_Prefix ?_) | (refine wpList_loadg_mem (by go_simp) 24 _ rfl 1 _ _ _ hM rfl rfl _ Tryd.underlying24 rfl sz_Prefix ?_) | (refine wpList_loadg_mem (by go_simp) 24 _ rfl 2 _ _ _ hM rfl rfl _ Tryd.underlying24 rfl sz_Prefix ?_) | (refine wpList_loadg_mem (by go_simp) 24 _ rfl 3 _ _ _ hM rfl rfl _ Tryd.underlying24 rfl sz_Prefix ?_) | (refine wpList_loadg_mem (by go_simp) 24 _ rfl 4 _ _ _ hM rfl rfl _ Tryd.underlying24 rfl sz_Prefix ?_))
          | ((with_reducible refine at_store_ (T := 24) ?_); first | (refine wpList_store_mem rfl 24 _ _ rfl 0 _ _ _ _ hM rfl rfl rfl rfl sz_Prefix rfl ?_; clear hM; intro W hM; simp only [List.set_cons_zero] at hM) | (refine wpList_store_mem rfl 24 _ _ rfl 1 _ _ _ _ hM rfl rfl rfl rfl sz_Prefix rfl ?_; clear hM; intro W hM; simp only [List.set_cons_succ, List.set_cons_zero] at hM) | (refine wpList_store_mem rfl 24 _ _ rfl 2 _ _ _ _ hM rfl rfl rfl rfl sz_Prefix rfl ?_; clear hM; intro W hM; simp only [List.set_cons_succ, List.set_cons_zero] at hM) | (refine wpList_store_mem rfl 24 _ _ rfl 3 _ _ _ _ hM rfl rfl rfl rfl sz_Prefix rfl ?_; clear hM; intro W hM; simp only [List.set_cons_succ, List.set_cons_zero] at hM) | (refine wpList_store_mem rfl 24 _ _ rfl 4 _ _ _ _ hM rfl rfl rfl rfl sz_Prefix rfl ?_; clear hM; intro W hM; simp only [List.set_cons_succ, List.set_cons_zero] at hM)))
      clear HAD HX2 HCK
      have hc0 := hM.cells 0 rfl
      have hc1 := hM.cells 1 rfl
      have hc2 := hM.cells 2 rfl
      rcases HR2.out with ⟨rfl, hr⟩ | rfl
      · rw [hr] at HCR
        clear hr HR2 HKK HFF
        go_wp2_with fail
        refine (HCR.out _).mono ?_; rintro e W ⟨rfl, hb⟩; replace hM := hM.kept hb; clear hb hc0 hc1 hc2; dsimp only
        go_wp2_with fail
        refine bodyPost_ret (v := .bool true) (by simp [results, Tryd.results3, go_sem]) rfl ?_
        exact ⟨rfl, hM.b⟩
      · clear HR2 HKK HFF HCR
        go_wp2_with fail
        refine bodyPost_ret (v := .bool true) (by simp [results, Tryd.results3, go_sem]) rfl ?_
        exact ⟨rfl, hM.b⟩
end Go.Proofs.YtamckbjckgpniaaDoor
