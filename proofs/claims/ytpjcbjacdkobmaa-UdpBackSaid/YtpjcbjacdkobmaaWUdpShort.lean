/- The walk of UdpShort: it returns true. -/
import Derived.Test.YtpjcbjacdkobmaaUdpL
namespace Go.Proofs.Ytpjcbjacdkobmaa
open Go.RowKit
set_option linter.unusedVariables false

theorem udRead_all (s d : Int) (t : ByteArray) (w : World) (ht : t.size ≤ 140737488354000) (hs : 0 ≤ s ∧ s ≤ 4294967295) (hd : 0 ≤ d ∧ d ≤ 4294967295) :
    Calls Try.prog 13 #[.int .u32 s, .int .u32 d, .string t] w fun e w' => e = .returned (.tuple #[.agg (cGram (if udErr s d t = 0 then rdG s d t else oGram)).toArray, .int .i64 (udErr s d t)]) ∧ Below w.heap.size w w' := by
  by_cases h : t.size < 8
  · have e : udErr s d t = 3 := by unfold udErr; rw [if_pos h]
    rw [e, if_neg (by omega)]
    exact udRead_short s d t w h
  · exact udRead_any s d t w (by omega) ht hs hd
set_option maxRecDepth 100000 in
set_option maxHeartbeats 4000000 in
theorem udShort_no (p : KGram) (a : Int) (r : ByteArray) (w : World) (ok : GramOk p) (hc : udChk p ≠ 0) :
    Calls Try.prog 4 #[.agg (cGram p).toArray, .int .i64 a, .string r] w fun e w' => e = .returned (.bool true) ∧ Below w.heap.size w w' := by
  have HWR := Lib.hid (fun W => udWrite_no p W ok hc)
  have HRD := Lib.hid (fun W => udRead_short 0 0 ⟨#[]⟩ W (by show (0 : Nat) < 8; omega))
  have hne : ((udChk p : Int) != 0) = true := by simpa using hc
  have hM := Mem.nil w
  go_enter Try.func4, Try.ntmps4
  go_wp2_with (first
    | (go_at_call 12; go_must (refine (HWR.out _).mono ?_; rintro e W ⟨rfl, hb⟩; replace hM := hM.kept hb; clear hb))
    | (go_at_call 13; go_must (refine (HRD.out _).mono ?_; rintro e W ⟨rfl, hb⟩; replace hM := hM.kept hb; clear hb))
    | (refine at_box_ ?_; refine wpList_box_mem rfl _ _ rfl _ rfl hM ?_; clear hM; intro gb W hM; first | (simp only [List.nil_append] at hM) | (simp only [List.cons_append, List.nil_append] at hM))
    | (refine at_alloc_ (T := 26) ?_; refine wpList_alloc_mem rfl 26 rfl _ zv_Gram _ rfl hM ?_; clear hM; intro gb W hM; first | (simp only [List.nil_append] at hM) | (simp only [List.cons_append, List.nil_append] at hM))
    | (refine at_load_ (T := 26) ?_; first | (refine wpList_loadg_mem (by go_simp) 26 _ rfl 0 _ _ _ hM rfl rfl _ Try.underlying26 rfl sz_Gram ?_) | (refine wpList_loadg_mem (by go_simp) 26 _ rfl 1 _ _ _ hM rfl rfl _ Try.underlying26 rfl sz_Gram ?_))
    | (refine at_store_ (T := 26) ?_; first | (refine wpList_store_mem rfl 26 _ _ rfl 0 _ _ _ _ hM rfl rfl rfl rfl sz_Gram rfl ?_; clear hM; intro W hM; simp only [List.set_cons_zero] at hM) | (refine wpList_store_mem rfl 26 _ _ rfl 1 _ _ _ _ hM rfl rfl rfl rfl sz_Gram rfl ?_; clear hM; intro W hM; simp only [List.set_cons_succ, List.set_cons_zero] at hM)))
  go_ret
  exact ⟨rfl, hM.b⟩
set_option maxRecDepth 100000 in
set_option maxHeartbeats 4000000 in
theorem udShort_ok (p q : KGram) (a : Int) (s r : ByteArray) (k : Nat) (E : Int) (w : World) (hs0 : 8 ≤ s.size) (hs2 : s.size ≤ 1000000) (hk : k < s.size) (hr2 : r.size ≤ 140737488351232) (hr : (r = ⟨#[]⟩ ∧ E = 0) ∨ (r.size ≠ 0 ∧ E = 4))
    (ha : a % (s.size : Int) = (k : Int)) (ha1 : -9223372036854775808 ≤ a) (ha2 : a ≤ 9223372036854775807)
    (hW : ∀ W, Calls Try.prog 12 #[.agg (cGram p).toArray] W fun e w' => e = .returned (.tuple #[.string s, .int .i64 0]) ∧ Below W.heap.size W w')
    (hS : ∀ W, Calls Try.prog 13 #[.int .u32 p.fa, .int .u32 p.ta, .string (s.extract 0 k)] W fun e w' => e = .returned (.tuple #[.agg (cGram oGram).toArray, .int .i64 3]) ∧ Below W.heap.size W w')
    (hL : ∀ W, Calls Try.prog 13 #[.int .u32 p.fa, .int .u32 p.ta, .string (s ++ r)] W fun e w' => e = .returned (.tuple #[.agg (cGram q).toArray, .int .i64 E]) ∧ Below W.heap.size W w') :
    Calls Try.prog 4 #[.agg (cGram p).toArray, .int .i64 a, .string r] w fun e w' => e = .returned (.bool true) ∧ Below w.heap.size w w' := by
  have HWR := Lib.hid hW
  have HSR := Lib.hid (fun (w1 : World) (u : Later w1) => hS u.now)
  have HLR := Lib.hid hL
  have HRD := Lib.hid (fun W => udRead_short 0 0 ⟨#[]⟩ W (by show (0 : Nat) < 8; omega))
  have hrs := (fun W => calls_b (Rest_any a (s.size : Int) W (by omega) (by omega) (by omega) (by omega)))
  rw [ha] at hrs
  have HRS := Lib.hid hrs
  have hse := str_some (u := s) (by omega)
  have hM := Mem.nil w
  clear hW hS hL ha hrs
  have hk1 : (k : Int) ≤ (s.size : Int) := by omega
  have hk2 : (0 : Int) ≤ (k : Int) := by omega
  have hadd := fun W => run_string_add_sum (P := Try.prog) (w := W) s r (by omega)
  have hre : r.toList.isEmpty = decide (E = 0) := by
    rcases hr with ⟨rfl, rfl⟩ | ⟨hr1, rfl⟩
    · rw [str_none rfl]; rfl
    · rw [str_some (by omega)]; rfl
  have HRE := Lib.hid hre
  have HR := Lib.hid hr
  clear hre hr
  go_enter Try.func4, Try.ntmps4
  go_upto_region 7 with         (first
          | (go_at_call 12; go_must (refine (HWR.out _).mono ?_; rintro e W ⟨rfl, hb⟩; replace hM := hM.kept hb; clear hb))
          | (go_at_call 13; go_must (refine (HRD.out _).mono ?_; rintro e W ⟨rfl, hb⟩; replace hM := hM.kept hb; clear hb))
          | (refine at_box_ ?_; refine wpList_box_mem rfl _ _ rfl _ rfl hM ?_; clear hM; intro gb W hM; first | (simp only [List.nil_append] at hM) | (simp only [List.cons_append, List.nil_append] at hM))
          | (refine at_alloc_ (T := 26) ?_; refine wpList_alloc_mem rfl 26 rfl _ zv_Gram _ rfl hM ?_; clear hM; intro gb W hM; first | (simp only [List.nil_append] at hM) | (simp only [List.cons_append, List.nil_append] at hM))
          | (refine at_load_ (T := 26) ?_; first | (refine wpList_loadg_mem (by go_simp) 26 _ rfl 0 _ _ _ hM rfl rfl _ Try.underlying26 rfl sz_Gram ?_) | (refine wpList_loadg_mem (by go_simp) 26 _ rfl 1 _ _ _ hM rfl rfl _ Try.underlying26 rfl sz_Gram ?_))
          | (refine at_store_ (T := 26) ?_; first | (refine wpList_store_mem rfl 26 _ _ rfl 0 _ _ _ _ hM rfl rfl rfl rfl sz_Gram rfl ?_; clear hM; intro W hM; simp only [List.set_cons_zero] at hM) | (refine wpList_store_mem rfl 26 _ _ rfl 1 _ _ _ _ hM rfl rfl rfl rfl sz_Gram rfl ?_; clear hM; intro W hM; simp only [List.set_cons_succ, List.set_cons_zero] at hM)))
  clear HWR HRD
  refine wp_region_mix0 16 19 [.al 26 zGram, .st 16 26 (cGram oGram), .q (.int .i64 3)] _ hM (by kernel_rfl) (by kernel_rfl) (by kernel_rfl) (by kernel_rfl) rfl ?_
  apply Exists.intro
  refine ⟨?hq, ?hr⟩
  case hq =>
    intro w1 hM1 hlc
    have hc0 := hM1.cells 0 rfl
    have hlt0 := hM1.lt 0 rfl
    simp only [cGram] at hc0
    simp only [List.take_succ_cons, List.take_zero]
    repeat (go_big_quiet_step (first | (go_at_call 16; first | (with_reducible exact later_call (HRS.out _))) | (go_at_call 13; first | (with_reducible exact later_call (HSR.out _ _)))))
    exact wpQuiet_nil rfl
  simp only [List.drop_succ_cons, List.drop_zero]
  refine ⟨rfl, rfl, zv_Gram, rfl, fun gx0 => ?_⟩
  refine ⟨_, _, _, _, rfl, rfl, rfl, rfl, rfl, rfl, rfl, sz_Gram, rfl, ?_⟩
  refine ⟨⟨_, .inl rfl, rfl, rfl⟩, ?_⟩
  intro W hF
  clear hM
  have hM : Mem _ W [atR _ _ _, atR _ _ _, atR _ _ _] := Mem.ofLf hF [19, 20, 16] (by decide) rfl
  clear hF
  simp only [Act.put, List.setIfInBounds_toArray, List.set_cons_zero, List.set_cons_succ]
  rcases HR.out with ⟨-, rfl⟩ | ⟨-, rfl⟩
  · have hre : r.toList.isEmpty = true := by rw [HRE.out]; rfl
    go_wp2_with (first
      | (go_at_call 13; go_must (refine (HLR.out _).mono ?_; rintro e W ⟨rfl, hb⟩; replace hM := hM.kept hb; clear hb))
      | (refine at_load_ (T := 22) ?_; first | (refine wpList_load1_mem (by go_simp) 22 _ rfl _ Try.underlying22 rfl 0 _ _ _ _ _ hM rfl rfl rfl ?_) | (refine wpList_load1_mem (by go_simp) 22 _ rfl _ Try.underlying22 rfl 1 _ _ _ _ _ hM rfl rfl rfl ?_) | (refine wpList_load1_mem (by go_simp) 22 _ rfl _ Try.underlying22 rfl 2 _ _ _ _ _ hM rfl rfl rfl ?_) | (refine wpList_load1_mem (by go_simp) 22 _ rfl _ Try.underlying22 rfl 3 _ _ _ _ _ hM rfl rfl rfl ?_))
      | (refine at_load_ (T := 3) ?_; first | (refine wpList_load1_mem (by go_simp) 3 _ rfl _ Try.underlying3 rfl 0 _ _ _ _ _ hM rfl rfl rfl ?_) | (refine wpList_load1_mem (by go_simp) 3 _ rfl _ Try.underlying3 rfl 1 _ _ _ _ _ hM rfl rfl rfl ?_) | (refine wpList_load1_mem (by go_simp) 3 _ rfl _ Try.underlying3 rfl 2 _ _ _ _ _ hM rfl rfl rfl ?_) | (refine wpList_load1_mem (by go_simp) 3 _ rfl _ Try.underlying3 rfl 3 _ _ _ _ _ hM rfl rfl rfl ?_))
      | (refine at_load_ (T := 9) ?_; first | (refine wpList_load1_mem (by go_simp) 9 _ rfl _ Try.underlying9 rfl 0 _ _ _ _ _ hM rfl rfl rfl ?_) | (refine wpList_load1_mem (by go_simp) 9 _ rfl _ Try.underlying9 rfl 1 _ _ _ _ _ hM rfl rfl rfl ?_) | (refine wpList_load1_mem (by go_simp) 9 _ rfl _ Try.underlying9 rfl 2 _ _ _ _ _ hM rfl rfl rfl ?_) | (refine wpList_load1_mem (by go_simp) 9 _ rfl _ Try.underlying9 rfl 3 _ _ _ _ _ hM rfl rfl rfl ?_))
      | (refine at_box_ ?_; refine wpList_box_mem rfl _ _ rfl _ rfl hM ?_; clear hM; intro gb W hM; first | (simp only [List.nil_append] at hM) | (simp only [List.cons_append, List.nil_append] at hM))
      | (refine at_alloc_ (T := 26) ?_; refine wpList_alloc_mem rfl 26 rfl _ zv_Gram _ rfl hM ?_; clear hM; intro gb W hM; first | (simp only [List.nil_append] at hM) | (simp only [List.cons_append, List.nil_append] at hM))
      | (refine at_load_ (T := 26) ?_; first | (refine wpList_loadg_mem (by go_simp) 26 _ rfl 0 _ _ _ hM rfl rfl _ Try.underlying26 rfl sz_Gram ?_) | (refine wpList_loadg_mem (by go_simp) 26 _ rfl 1 _ _ _ hM rfl rfl _ Try.underlying26 rfl sz_Gram ?_) | (refine wpList_loadg_mem (by go_simp) 26 _ rfl 2 _ _ _ hM rfl rfl _ Try.underlying26 rfl sz_Gram ?_) | (refine wpList_loadg_mem (by go_simp) 26 _ rfl 3 _ _ _ hM rfl rfl _ Try.underlying26 rfl sz_Gram ?_))
      | (refine at_store_ (T := 26) ?_; first | (refine wpList_store_mem rfl 26 _ _ rfl 0 _ _ _ _ hM rfl rfl rfl rfl sz_Gram rfl ?_; clear hM; intro W hM; simp only [List.set_cons_zero] at hM) | (refine wpList_store_mem rfl 26 _ _ rfl 1 _ _ _ _ hM rfl rfl rfl rfl sz_Gram rfl ?_; clear hM; intro W hM; simp only [List.set_cons_succ, List.set_cons_zero] at hM) | (refine wpList_store_mem rfl 26 _ _ rfl 2 _ _ _ _ hM rfl rfl rfl rfl sz_Gram rfl ?_; clear hM; intro W hM; simp only [List.set_cons_succ, List.set_cons_zero] at hM) | (refine wpList_store_mem rfl 26 _ _ rfl 3 _ _ _ _ hM rfl rfl rfl rfl sz_Gram rfl ?_; clear hM; intro W hM; simp only [List.set_cons_succ, List.set_cons_zero] at hM)))
    go_ret
    exact ⟨rfl, hM.b⟩
  · have hre : r.toList.isEmpty = false := by rw [HRE.out]; rfl
    go_wp2_with (first
      | (go_at_call 13; go_must (refine (HLR.out _).mono ?_; rintro e W ⟨rfl, hb⟩; replace hM := hM.kept hb; clear hb))
      | (refine at_load_ (T := 22) ?_; first | (refine wpList_load1_mem (by go_simp) 22 _ rfl _ Try.underlying22 rfl 0 _ _ _ _ _ hM rfl rfl rfl ?_) | (refine wpList_load1_mem (by go_simp) 22 _ rfl _ Try.underlying22 rfl 1 _ _ _ _ _ hM rfl rfl rfl ?_) | (refine wpList_load1_mem (by go_simp) 22 _ rfl _ Try.underlying22 rfl 2 _ _ _ _ _ hM rfl rfl rfl ?_) | (refine wpList_load1_mem (by go_simp) 22 _ rfl _ Try.underlying22 rfl 3 _ _ _ _ _ hM rfl rfl rfl ?_))
      | (refine at_load_ (T := 3) ?_; first | (refine wpList_load1_mem (by go_simp) 3 _ rfl _ Try.underlying3 rfl 0 _ _ _ _ _ hM rfl rfl rfl ?_) | (refine wpList_load1_mem (by go_simp) 3 _ rfl _ Try.underlying3 rfl 1 _ _ _ _ _ hM rfl rfl rfl ?_) | (refine wpList_load1_mem (by go_simp) 3 _ rfl _ Try.underlying3 rfl 2 _ _ _ _ _ hM rfl rfl rfl ?_) | (refine wpList_load1_mem (by go_simp) 3 _ rfl _ Try.underlying3 rfl 3 _ _ _ _ _ hM rfl rfl rfl ?_))
      | (refine at_load_ (T := 9) ?_; first | (refine wpList_load1_mem (by go_simp) 9 _ rfl _ Try.underlying9 rfl 0 _ _ _ _ _ hM rfl rfl rfl ?_) | (refine wpList_load1_mem (by go_simp) 9 _ rfl _ Try.underlying9 rfl 1 _ _ _ _ _ hM rfl rfl rfl ?_) | (refine wpList_load1_mem (by go_simp) 9 _ rfl _ Try.underlying9 rfl 2 _ _ _ _ _ hM rfl rfl rfl ?_) | (refine wpList_load1_mem (by go_simp) 9 _ rfl _ Try.underlying9 rfl 3 _ _ _ _ _ hM rfl rfl rfl ?_))
      | (refine at_box_ ?_; refine wpList_box_mem rfl _ _ rfl _ rfl hM ?_; clear hM; intro gb W hM; first | (simp only [List.nil_append] at hM) | (simp only [List.cons_append, List.nil_append] at hM))
      | (refine at_alloc_ (T := 26) ?_; refine wpList_alloc_mem rfl 26 rfl _ zv_Gram _ rfl hM ?_; clear hM; intro gb W hM; first | (simp only [List.nil_append] at hM) | (simp only [List.cons_append, List.nil_append] at hM))
      | (refine at_load_ (T := 26) ?_; first | (refine wpList_loadg_mem (by go_simp) 26 _ rfl 0 _ _ _ hM rfl rfl _ Try.underlying26 rfl sz_Gram ?_) | (refine wpList_loadg_mem (by go_simp) 26 _ rfl 1 _ _ _ hM rfl rfl _ Try.underlying26 rfl sz_Gram ?_) | (refine wpList_loadg_mem (by go_simp) 26 _ rfl 2 _ _ _ hM rfl rfl _ Try.underlying26 rfl sz_Gram ?_) | (refine wpList_loadg_mem (by go_simp) 26 _ rfl 3 _ _ _ hM rfl rfl _ Try.underlying26 rfl sz_Gram ?_))
      | (refine at_store_ (T := 26) ?_; first | (refine wpList_store_mem rfl 26 _ _ rfl 0 _ _ _ _ hM rfl rfl rfl rfl sz_Gram rfl ?_; clear hM; intro W hM; simp only [List.set_cons_zero] at hM) | (refine wpList_store_mem rfl 26 _ _ rfl 1 _ _ _ _ hM rfl rfl rfl rfl sz_Gram rfl ?_; clear hM; intro W hM; simp only [List.set_cons_succ, List.set_cons_zero] at hM) | (refine wpList_store_mem rfl 26 _ _ rfl 2 _ _ _ _ hM rfl rfl rfl rfl sz_Gram rfl ?_; clear hM; intro W hM; simp only [List.set_cons_succ, List.set_cons_zero] at hM) | (refine wpList_store_mem rfl 26 _ _ rfl 3 _ _ _ _ hM rfl rfl rfl rfl sz_Gram rfl ?_; clear hM; intro W hM; simp only [List.set_cons_succ, List.set_cons_zero] at hM)))
    go_ret
    exact ⟨rfl, hM.b⟩
theorem w_UdpShort (a0a : Int) (a0b : Int) (a0c : Int) (a0d : Int) (s0e : ByteArray) (a1 : Int) (s2 : ByteArray) (w : World) (ha0a : 0 ≤ a0a) (ha0a' : a0a ≤ 4294967295) (ha0b : -9223372036854775808 ≤ a0b) (ha0b' : a0b ≤ 9223372036854775807) (ha0c : 0 ≤ a0c) (ha0c' : a0c ≤ 4294967295) (ha0d : -9223372036854775808 ≤ a0d) (ha0d' : a0d ≤ 9223372036854775807) (hs0e : s0e.size ≤ 9223372036854775807) (ha1 : -9223372036854775808 ≤ a1) (ha1' : a1 ≤ 9223372036854775807) (hs2 : s2.size ≤ 140737488351232) :
    Calls Try.prog 4 #[.agg #[.int .u32 a0a, .int .i64 a0b, .int .u32 a0c, .int .i64 a0d, .string s0e], .int .i64 a1, .string s2] w fun e w' => e = .returned (.bool true) ∧ Below w.heap.size w w' := by
  have ok : GramOk ⟨a0a, a0b, a0c, a0d, s0e⟩ := ⟨⟨ha0a, ha0a'⟩, ⟨ha0b, ha0b'⟩, ⟨ha0c, ha0c'⟩, ⟨ha0d, ha0d'⟩, hs0e⟩
  show Calls Try.prog 4 #[.agg (cGram ⟨a0a, a0b, a0c, a0d, s0e⟩).toArray, .int .i64 a1, .string s2] w fun e w' => e = .returned (.bool true) ∧ Below w.heap.size w w'
  generalize (⟨a0a, a0b, a0c, a0d, s0e⟩ : KGram) = p at *
  by_cases hc : udChk p = 0
  · have hb := (udChk_ok hc).2.2
    have hz := udS_size p
    obtain ⟨k, hk⟩ : ∃ k : Nat, a1 % ((udS p).size : Int) = (k : Int) := ⟨(a1 % ((udS p).size : Int)).toNat, by have := Int.emod_nonneg a1 (show ((udS p).size : Int) ≠ 0 by omega); omega⟩
    have hkl : k < (udS p).size := by have := Int.emod_lt_of_pos a1 (show 0 < ((udS p).size : Int) by omega); omega
    have hS := fun W => udRead_all p.fa p.ta ((udS p).extract 0 k) W (by rw [ByteArray.size_extract]; omega) ok.fa ok.ta
    rw [ud_less p hc k hkl, if_neg (by omega)] at hS
    by_cases hr : s2.size = 0
    · have he : s2 = ⟨#[]⟩ := str_ext (List.eq_nil_of_length_eq_zero (by rw [Array.length_toList]; exact hr))
      subst he
      have hL := fun W => udRead_all p.fa p.ta (udS p ++ ⟨#[]⟩) W (by rw [ByteArray.size_append]; omega) ok.fa ok.ta
      have e : udS p ++ ⟨#[]⟩ = udS p := str_ext (by simp)
      have h3 := ud_back p hc
      rw [e, h3.1, if_pos rfl, h3.2] at hL
      exact udShort_ok p p a1 (udS p) ⟨#[]⟩ k 0 w (by omega) (by omega) hkl hs2 (.inl ⟨rfl, rfl⟩) hk ha1 ha1' (fun W => udWrite_ok p W ok hc) hS (by rw [e]; exact hL)
    · have hL := fun W => udRead_all p.fa p.ta (udS p ++ s2) W (by rw [ByteArray.size_append]; omega) ok.fa ok.ta
      rw [ud_more p hc s2 hr, if_neg (by omega)] at hL
      exact udShort_ok p oGram a1 (udS p) s2 k 4 w (by omega) (by omega) hkl hs2 (.inr ⟨hr, rfl⟩) hk ha1 ha1' (fun W => udWrite_ok p W ok hc) hS hL
  · exact udShort_no p a1 s2 w ok hc
end Go.Proofs.Ytpjcbjacdkobmaa
