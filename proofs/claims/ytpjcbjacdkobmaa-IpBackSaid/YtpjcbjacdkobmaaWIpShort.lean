/- The walk of IpShort: it returns true. -/
import Derived.Test.YtpjcbjacdkobmaaIpB
namespace Go.Proofs.Ytpjcbjacdkobmaa
open Go.RowKit
set_option linter.unusedVariables false

theorem ipRead_all (s : ByteArray) (w : World) (hs : s.size ≤ 9223372036854775807) :
    Calls Try.prog 18 #[.string s] w fun e w' => e = .returned (.tuple #[.agg (pkC (if rdErr s = 0 then rdPk s else zeroPk)).toArray, .int .i64 (rdErr s)]) ∧ Below w.heap.size w w' := by
  by_cases h : s.size < 20
  · have e : rdErr s = 3 := by unfold rdErr; rw [if_pos h]
    rw [e, if_neg (by omega)]
    exact ipRead_short s w h
  · exact ipRead_any s w (by omega) hs
set_option maxRecDepth 100000 in
set_option maxHeartbeats 4000000 in
theorem ipShort_no (p : Pk) (a : Int) (r : ByteArray) (w : World) (ok : PkOk p) (hc : ipChk p ≠ 0) :
    Calls Try.prog 7 #[.agg (pkC p).toArray, .int .i64 a, .string r] w fun e w' => e = .returned (.bool true) ∧ Below w.heap.size w w' := by
  have HWR := Lib.hid (fun W => ipWrite_no p W ok hc)
  have HRD := Lib.hid (fun W => ipRead_short ⟨#[]⟩ W (by show (0 : Nat) < 20; omega))
  have hne : ((ipChk p : Int) != 0) = true := by simpa using hc
  have hM := Mem.nil w
  go_enter Try.func7, Try.ntmps7
  go_wp2_with (first
    | (go_at_call 17; go_must (refine (HWR.out _).mono ?_; rintro e W ⟨rfl, hb⟩; replace hM := hM.kept hb; clear hb))
    | (go_at_call 18; go_must (refine (HRD.out _).mono ?_; rintro e W ⟨rfl, hb⟩; replace hM := hM.kept hb; clear hb))
    | (refine wpList_box_mem rfl _ _ rfl _ rfl hM ?_; clear hM; intro g W hM; first | (simp only [List.nil_append] at hM) | (simp only [List.cons_append, List.nil_append] at hM))
    | (refine wpList_alloc_mem rfl 38 rfl _ zv_Packet _ rfl hM ?_; clear hM; intro g W hM; first | (simp only [List.nil_append] at hM) | (simp only [List.cons_append, List.nil_append] at hM))
    | (refine wpList_load_mem rfl 38 _ rfl 0 _ _ _ hM rfl rfl _ Try.underlying38 rfl sz_Packet ?_)
    | (refine wpList_loadg_mem (by go_simp) 38 _ rfl 0 _ _ _ hM rfl rfl _ Try.underlying38 rfl sz_Packet ?_)
    | (refine wpList_store_mem rfl 38 _ _ rfl 0 _ _ _ _ hM rfl rfl rfl rfl sz_Packet rfl ?_; clear hM; intro W hM; simp only [List.set_cons_zero] at hM)
    | (refine wpList_load_mem rfl 38 _ rfl 1 _ _ _ hM rfl rfl _ Try.underlying38 rfl sz_Packet ?_)
    | (refine wpList_loadg_mem (by go_simp) 38 _ rfl 1 _ _ _ hM rfl rfl _ Try.underlying38 rfl sz_Packet ?_)
    | (refine wpList_store_mem rfl 38 _ _ rfl 1 _ _ _ _ hM rfl rfl rfl rfl sz_Packet rfl ?_; clear hM; intro W hM; simp only [List.set_cons_succ, List.set_cons_zero] at hM))
  go_ret
  exact ⟨rfl, hM.b⟩
set_option maxRecDepth 100000 in
set_option maxHeartbeats 800000 in
theorem ipShort_ok (p q : Pk) (a : Int) (s r : ByteArray) (k : Nat) (E : Int) (w : World) (hs0 : 20 ≤ s.size) (hs2 : s.size ≤ 1000000) (hk : k < s.size) (hr2 : r.size ≤ 140737488351232) (hr : (r = ⟨#[]⟩ ∧ E = 0) ∨ (r.size ≠ 0 ∧ E = 4))
    (ha : a % (s.size : Int) = (k : Int)) (ha1 : -9223372036854775808 ≤ a) (ha2 : a ≤ 9223372036854775807)
    (hW : ∀ W, Calls Try.prog 17 #[.agg (pkC p).toArray] W fun e w' => e = .returned (.tuple #[.string s, .int .i64 0]) ∧ Below W.heap.size W w')
    (hS : ∀ W, Calls Try.prog 18 #[.string (s.extract 0 k)] W fun e w' => e = .returned (.tuple #[.agg (pkC zeroPk).toArray, .int .i64 3]) ∧ Below W.heap.size W w')
    (hL : ∀ W, Calls Try.prog 18 #[.string (s ++ r)] W fun e w' => e = .returned (.tuple #[.agg (pkC q).toArray, .int .i64 E]) ∧ Below W.heap.size W w') :
    Calls Try.prog 7 #[.agg (pkC p).toArray, .int .i64 a, .string r] w fun e w' => e = .returned (.bool true) ∧ Below w.heap.size w w' := by
  have HWR := Lib.hid hW
  have HSR := Lib.hid hS
  have HLR := Lib.hid hL
  have HRD := Lib.hid (fun W => ipRead_short ⟨#[]⟩ W (by show (0 : Nat) < 20; omega))
  have HRS := Lib.hid (fun W => calls_b (Rest_any a (s.size : Int) W (by omega) (by omega) (by omega) (by omega)))
  rw [ha] at HRS
  have hse := str_some (u := s) (by omega)
  have hM := Mem.nil w
  clear hW hS hL ha
  have hk1 : (k : Int) ≤ (s.size : Int) := by omega
  have hk2 : (0 : Int) ≤ (k : Int) := by omega
  have hadd := fun W => run_string_add_sum (P := Try.prog) (w := W) s r (by omega)
  rcases hr with ⟨rfl, rfl⟩ | ⟨hr1, rfl⟩
  · go_enter Try.func7, Try.ntmps7
    go_wp2_with (first
      | (go_at_call 17; go_must (refine (HWR.out _).mono ?_; rintro e W ⟨rfl, hb⟩; replace hM := hM.kept hb; clear hb))
      | (go_at_call 16; go_must (refine (HRS.out _).mono ?_; rintro e W ⟨rfl, hb⟩; replace hM := hM.kept hb; clear hb))
      | (go_at_call 18; first | (with_reducible refine (HRD.out _).mono ?_; rintro e W ⟨rfl, hb⟩; replace hM := hM.kept hb; clear hb) | (with_reducible refine (HSR.out _).mono ?_; rintro e W ⟨rfl, hb⟩; replace hM := hM.kept hb; clear hb) | (with_reducible refine (HLR.out _).mono ?_; rintro e W ⟨rfl, hb⟩; replace hM := hM.kept hb; clear hb))
      | (refine wpList_box_mem rfl _ _ rfl _ rfl hM ?_; clear hM; intro g W hM; first | (simp only [List.nil_append] at hM) | (simp only [List.cons_append, List.nil_append] at hM))
      | (refine wpList_alloc_mem rfl 38 rfl _ zv_Packet _ rfl hM ?_; clear hM; intro g W hM; first | (simp only [List.nil_append] at hM) | (simp only [List.cons_append, List.nil_append] at hM))
      | (refine wpList_load_mem rfl 38 _ rfl 0 _ _ _ hM rfl rfl _ Try.underlying38 rfl sz_Packet ?_)
      | (refine wpList_loadg_mem (by go_simp) 38 _ rfl 0 _ _ _ hM rfl rfl _ Try.underlying38 rfl sz_Packet ?_)
      | (refine wpList_store_mem rfl 38 _ _ rfl 0 _ _ _ _ hM rfl rfl rfl rfl sz_Packet rfl ?_; clear hM; intro W hM; simp only [List.set_cons_zero] at hM)
      | (refine wpList_load_mem rfl 38 _ rfl 1 _ _ _ hM rfl rfl _ Try.underlying38 rfl sz_Packet ?_)
      | (refine wpList_loadg_mem (by go_simp) 38 _ rfl 1 _ _ _ hM rfl rfl _ Try.underlying38 rfl sz_Packet ?_)
      | (refine wpList_store_mem rfl 38 _ _ rfl 1 _ _ _ _ hM rfl rfl rfl rfl sz_Packet rfl ?_; clear hM; intro W hM; simp only [List.set_cons_succ, List.set_cons_zero] at hM)
      | (refine wpList_load_mem rfl 38 _ rfl 2 _ _ _ hM rfl rfl _ Try.underlying38 rfl sz_Packet ?_)
      | (refine wpList_loadg_mem (by go_simp) 38 _ rfl 2 _ _ _ hM rfl rfl _ Try.underlying38 rfl sz_Packet ?_)
      | (refine wpList_store_mem rfl 38 _ _ rfl 2 _ _ _ _ hM rfl rfl rfl rfl sz_Packet rfl ?_; clear hM; intro W hM; simp only [List.set_cons_succ, List.set_cons_zero] at hM)
      | (refine wpList_load_mem rfl 38 _ rfl 3 _ _ _ hM rfl rfl _ Try.underlying38 rfl sz_Packet ?_)
      | (refine wpList_loadg_mem (by go_simp) 38 _ rfl 3 _ _ _ hM rfl rfl _ Try.underlying38 rfl sz_Packet ?_)
      | (refine wpList_store_mem rfl 38 _ _ rfl 3 _ _ _ _ hM rfl rfl rfl rfl sz_Packet rfl ?_; clear hM; intro W hM; simp only [List.set_cons_succ, List.set_cons_zero] at hM))
    go_ret
    exact ⟨rfl, hM.b⟩
  · have hre := str_some (u := r) (by omega)
    go_enter Try.func7, Try.ntmps7
    go_wp2_with (first
      | (go_at_call 17; go_must (refine (HWR.out _).mono ?_; rintro e W ⟨rfl, hb⟩; replace hM := hM.kept hb; clear hb))
      | (go_at_call 16; go_must (refine (HRS.out _).mono ?_; rintro e W ⟨rfl, hb⟩; replace hM := hM.kept hb; clear hb))
      | (go_at_call 18; first | (with_reducible refine (HRD.out _).mono ?_; rintro e W ⟨rfl, hb⟩; replace hM := hM.kept hb; clear hb) | (with_reducible refine (HSR.out _).mono ?_; rintro e W ⟨rfl, hb⟩; replace hM := hM.kept hb; clear hb) | (with_reducible refine (HLR.out _).mono ?_; rintro e W ⟨rfl, hb⟩; replace hM := hM.kept hb; clear hb))
      | (refine wpList_box_mem rfl _ _ rfl _ rfl hM ?_; clear hM; intro g W hM; first | (simp only [List.nil_append] at hM) | (simp only [List.cons_append, List.nil_append] at hM))
      | (refine wpList_alloc_mem rfl 38 rfl _ zv_Packet _ rfl hM ?_; clear hM; intro g W hM; first | (simp only [List.nil_append] at hM) | (simp only [List.cons_append, List.nil_append] at hM))
      | (refine wpList_load_mem rfl 38 _ rfl 0 _ _ _ hM rfl rfl _ Try.underlying38 rfl sz_Packet ?_)
      | (refine wpList_loadg_mem (by go_simp) 38 _ rfl 0 _ _ _ hM rfl rfl _ Try.underlying38 rfl sz_Packet ?_)
      | (refine wpList_store_mem rfl 38 _ _ rfl 0 _ _ _ _ hM rfl rfl rfl rfl sz_Packet rfl ?_; clear hM; intro W hM; simp only [List.set_cons_zero] at hM)
      | (refine wpList_load_mem rfl 38 _ rfl 1 _ _ _ hM rfl rfl _ Try.underlying38 rfl sz_Packet ?_)
      | (refine wpList_loadg_mem (by go_simp) 38 _ rfl 1 _ _ _ hM rfl rfl _ Try.underlying38 rfl sz_Packet ?_)
      | (refine wpList_store_mem rfl 38 _ _ rfl 1 _ _ _ _ hM rfl rfl rfl rfl sz_Packet rfl ?_; clear hM; intro W hM; simp only [List.set_cons_succ, List.set_cons_zero] at hM)
      | (refine wpList_load_mem rfl 38 _ rfl 2 _ _ _ hM rfl rfl _ Try.underlying38 rfl sz_Packet ?_)
      | (refine wpList_loadg_mem (by go_simp) 38 _ rfl 2 _ _ _ hM rfl rfl _ Try.underlying38 rfl sz_Packet ?_)
      | (refine wpList_store_mem rfl 38 _ _ rfl 2 _ _ _ _ hM rfl rfl rfl rfl sz_Packet rfl ?_; clear hM; intro W hM; simp only [List.set_cons_succ, List.set_cons_zero] at hM)
      | (refine wpList_load_mem rfl 38 _ rfl 3 _ _ _ hM rfl rfl _ Try.underlying38 rfl sz_Packet ?_)
      | (refine wpList_loadg_mem (by go_simp) 38 _ rfl 3 _ _ _ hM rfl rfl _ Try.underlying38 rfl sz_Packet ?_)
      | (refine wpList_store_mem rfl 38 _ _ rfl 3 _ _ _ _ hM rfl rfl rfl rfl sz_Packet rfl ?_; clear hM; intro W hM; simp only [List.set_cons_succ, List.set_cons_zero] at hM))
    go_ret
    exact ⟨rfl, hM.b⟩
theorem w_IpShort (a0a : Int) (a0b : Int) (a0c : Int) (a0d : Int) (a0e : Int) (b0f : Bool) (b0g : Bool) (a0i : Int) (s0j : ByteArray) (a1 : Int) (s2 : ByteArray) (w : World) (ha0a : 0 ≤ a0a) (ha0a' : a0a ≤ 4294967295) (ha0b : 0 ≤ a0b) (ha0b' : a0b ≤ 4294967295) (ha0c : -9223372036854775808 ≤ a0c) (ha0c' : a0c ≤ 9223372036854775807) (ha0d : -9223372036854775808 ≤ a0d) (ha0d' : a0d ≤ 9223372036854775807) (ha0e : -9223372036854775808 ≤ a0e) (ha0e' : a0e ≤ 9223372036854775807) (ha0i : -9223372036854775808 ≤ a0i) (ha0i' : a0i ≤ 9223372036854775807) (hs0j : s0j.size ≤ 9223372036854775807) (ha1 : -9223372036854775808 ≤ a1) (ha1' : a1 ≤ 9223372036854775807) (hs2 : s2.size ≤ 140737488351232) :
    Calls Try.prog 7 #[.agg #[.int .u32 a0a, .int .u32 a0b, .int .i64 a0c, .int .i64 a0d, .int .i64 a0e, .bool b0f, .bool b0g, .int .i64 a0i, .string s0j], .int .i64 a1, .string s2] w fun e w' => e = .returned (.bool true) ∧ Below w.heap.size w w' := by
  have ok : PkOk ⟨a0a, a0b, a0c, a0d, a0e, b0f, b0g, a0i, s0j⟩ := ⟨⟨ha0a, ha0a'⟩, ⟨ha0b, ha0b'⟩, ⟨ha0c, ha0c'⟩, ⟨ha0d, ha0d'⟩, ⟨ha0e, ha0e'⟩, ⟨ha0i, ha0i'⟩, hs0j⟩
  show Calls Try.prog 7 #[.agg (pkC ⟨a0a, a0b, a0c, a0d, a0e, b0f, b0g, a0i, s0j⟩).toArray, .int .i64 a1, .string s2] w fun e w' => e = .returned (.bool true) ∧ Below w.heap.size w w'
  generalize (⟨a0a, a0b, a0c, a0d, a0e, b0f, b0g, a0i, s0j⟩ : Pk) = p at *
  by_cases hc : ipChk p = 0
  · have hb := (ipChk_ok hc).2.2.2.2
    have hz := ipS_size p
    obtain ⟨k, hk⟩ : ∃ k : Nat, a1 % ((ipS p).size : Int) = (k : Int) := ⟨(a1 % ((ipS p).size : Int)).toNat, by have := Int.emod_nonneg a1 (show ((ipS p).size : Int) ≠ 0 by omega); omega⟩
    have hkl : k < (ipS p).size := by have := Int.emod_lt_of_pos a1 (show 0 < ((ipS p).size : Int) by omega); omega
    have hS := fun W => ipRead_all ((ipS p).extract 0 k) W (by rw [ByteArray.size_extract]; omega)
    rw [ip_less p ok hc k hkl, if_neg (by omega)] at hS
    by_cases hr : s2.size = 0
    · have he : s2 = ⟨#[]⟩ := str_ext (List.eq_nil_of_length_eq_zero (by rw [Array.length_toList]; exact hr))
      subst he
      have hL := fun W => ipRead_all (ipS p ++ ⟨#[]⟩) W (by rw [ByteArray.size_append]; omega)
      have e : ipS p ++ ⟨#[]⟩ = ipS p := str_ext (by simp)
      have h3 := ip_back p ok hc
      rw [e, h3.1, if_pos rfl, h3.2] at hL
      exact ipShort_ok p p a1 (ipS p) ⟨#[]⟩ k 0 w (by omega) (by omega) hkl hs2 (.inl ⟨rfl, rfl⟩) hk ha1 ha1' (fun W => ipWrite_ok p W ok hc) hS (by rw [e]; exact hL)
    · have hL := fun W => ipRead_all (ipS p ++ s2) W (by rw [ByteArray.size_append]; omega)
      rw [ip_more p ok hc s2 hr, if_neg (by omega)] at hL
      exact ipShort_ok p zeroPk a1 (ipS p) s2 k 4 w (by omega) (by omega) hkl hs2 (.inr ⟨hr, rfl⟩) hk ha1 ha1' (fun W => ipWrite_ok p W ok hc) hS hL
  · exact ipShort_no p a1 s2 w ok hc
end Go.Proofs.Ytpjcbjacdkobmaa
