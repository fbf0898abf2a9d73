/- The walk of TcpAgain: it returns true. -/
import Derived.Test.YtpjcbjacdkobmaaWTcpBack
namespace Go.Proofs.Ytpjcbjacdkobmaa
open Go.RowKit
set_option linter.unusedVariables false

set_option maxRecDepth 100000 in
set_option maxHeartbeats 4000000 in
theorem tcAgain_no (s d E : Int) (t : ByteArray) (w : World) (hE : E ≠ 0)
    (hR : ∀ W, Calls Try.prog 21 #[.int .u32 s, .int .u32 d, .string t] W fun e w' => e = .returned (.tuple #[.agg (cSeg oSeg).toArray, .int .i64 E]) ∧ Below W.heap.size W w') :
    Calls Try.prog 9 #[.int .u32 s, .int .u32 d, .string t] w fun e w' => e = .returned (.bool true) ∧ Below w.heap.size w w' := by
  have hne : ((E : Int) != 0) = true := by simpa using hE
  have HR := Lib.hid hR
  have HRD := Lib.hid (fun W => tcRead_short 0 0 ⟨#[]⟩ W (by show (0 : Nat) < 20; omega))
  have hM := Mem.nil w
  clear hR
  go_enter Try.func9, Try.ntmps9
  go_upto_region 6 with         (first
          | (go_at_call 21; first | (with_reducible refine (HR.out _).mono ?_; rintro e W ⟨rfl, hb⟩; replace hM := hM.kept hb; clear hb) | (with_reducible refine (HRD.out _).mono ?_; rintro e W ⟨rfl, hb⟩; replace hM := hM.kept hb; clear hb))
          | (refine at_box_ ?_; refine wpList_box_mem rfl _ _ rfl _ rfl hM ?_; clear hM; intro gb W hM; first | (simp only [List.nil_append] at hM) | (simp only [List.cons_append, List.nil_append] at hM))
          | (refine at_alloc_ (T := 47) ?_; refine wpList_alloc_mem rfl 47 rfl _ zv_Seg _ rfl hM ?_; clear hM; intro gb W hM; first | (simp only [List.nil_append] at hM) | (simp only [List.cons_append, List.nil_append] at hM))
          | (refine at_load_ (T := 47) ?_; first | (refine wpList_loadg_mem (by go_simp) 47 _ rfl 0 _ _ _ hM rfl rfl _ Try.underlying47 rfl sz_Seg ?_) | (refine wpList_loadg_mem (by go_simp) 47 _ rfl 1 _ _ _ hM rfl rfl _ Try.underlying47 rfl sz_Seg ?_) | (refine wpList_loadg_mem (by go_simp) 47 _ rfl 2 _ _ _ hM rfl rfl _ Try.underlying47 rfl sz_Seg ?_))
          | (refine at_store_ (T := 47) ?_; first | (refine wpList_store_mem rfl 47 _ _ rfl 0 _ _ _ _ hM rfl rfl rfl rfl sz_Seg rfl ?_; clear hM; intro W hM; simp only [List.set_cons_zero] at hM) | (refine wpList_store_mem rfl 47 _ _ rfl 1 _ _ _ _ hM rfl rfl rfl rfl sz_Seg rfl ?_; clear hM; intro W hM; simp only [List.set_cons_succ, List.set_cons_zero] at hM) | (refine wpList_store_mem rfl 47 _ _ rfl 2 _ _ _ _ hM rfl rfl rfl rfl sz_Seg rfl ?_; clear hM; intro W hM; simp only [List.set_cons_succ, List.set_cons_zero] at hM)))
  go_wp2_with (first
    | (refine at_eq_ (T := 47) ?_; refine wpList_eq_mem (by go_simp) 47 _ _ _ rfl _ _ rfl rfl eg_Seg _ (eqT_Seg oSeg) ?_)
    | (refine at_load_ (T := 47) ?_; refine wpList_loadg_mem (by go_simp) 47 _ rfl 0 _ _ _ hM rfl rfl _ Try.underlying47 rfl sz_Seg ?_))
  go_ret
  exact ⟨rfl, hM.b⟩
set_option maxRecDepth 100000 in
set_option maxHeartbeats 4000000 in
theorem tcAgain_ok (s d : Int) (g : KSeg) (t u : ByteArray) (w : World) (hl : (u.size : Int) ≤ (t.size : Int) + 4) (ht : t.size ≤ 140737488354000)
    (hR : ∀ W, Calls Try.prog 21 #[.int .u32 s, .int .u32 d, .string t] W fun e w' => e = .returned (.tuple #[.agg (cSeg g).toArray, .int .i64 0]) ∧ Below W.heap.size W w')
    (hW : ∀ W, Calls Try.prog 20 #[.agg (cSeg g).toArray] W fun e w' => e = .returned (.tuple #[.string u, .int .i64 0]) ∧ Below W.heap.size W w')
    (hR2 : ∀ W, Calls Try.prog 21 #[.int .u32 s, .int .u32 d, .string u] W fun e w' => e = .returned (.tuple #[.agg (cSeg g).toArray, .int .i64 0]) ∧ Below W.heap.size W w') :
    Calls Try.prog 9 #[.int .u32 s, .int .u32 d, .string t] w fun e w' => e = .returned (.bool true) ∧ Below w.heap.size w w' := by
  have HR := Lib.hid hR
  have HW := Lib.hid hW
  have HR2 := Lib.hid hR2
  have HRD := Lib.hid (fun W => tcRead_short 0 0 ⟨#[]⟩ W (by show (0 : Nat) < 20; omega))
  have hM := Mem.nil w
  clear hR hW hR2
  go_enter Try.func9, Try.ntmps9
  go_wp2_with (first
    | (go_at_call 21; first | (with_reducible refine (HR.out _).mono ?_; rintro e W ⟨rfl, hb⟩; replace hM := hM.kept hb; clear hb) | (with_reducible refine (HRD.out _).mono ?_; rintro e W ⟨rfl, hb⟩; replace hM := hM.kept hb; clear hb) | (with_reducible refine (HR2.out _).mono ?_; rintro e W ⟨rfl, hb⟩; replace hM := hM.kept hb; clear hb))
    | (go_at_call 20; go_must (refine (HW.out _).mono ?_; rintro e W ⟨rfl, hb⟩; replace hM := hM.kept hb; clear hb))
    | (refine at_eq_ (T := 47) ?_; first | (refine wpList_eq_mem (by go_simp) 47 _ _ _ rfl _ _ rfl rfl eg_Seg _ (eqT_Seg _) ?_) | (refine wpList_eq_mem (by go_simp) 47 _ _ _ rfl _ _ rfl rfl eg_Seg _ (eqF_Seg _ _ (by assumption)) ?_))
    | (refine at_ne_ (T := 47) ?_; first | (refine wpList_ne_mem (by go_simp) 47 _ _ _ rfl _ _ rfl rfl eg_Seg _ (eqT_Seg _) ?_) | (refine wpList_ne_mem (by go_simp) 47 _ _ _ rfl _ _ rfl rfl eg_Seg _ (eqF_Seg _ _ (by assumption)) ?_))
    | (refine at_box_ ?_; refine wpList_box_mem rfl _ _ rfl _ rfl hM ?_; clear hM; intro gb W hM; first | (simp only [List.nil_append] at hM) | (simp only [List.cons_append, List.nil_append] at hM))
    | (refine at_alloc_ (T := 47) ?_; refine wpList_alloc_mem rfl 47 rfl _ zv_Seg _ rfl hM ?_; clear hM; intro gb W hM; first | (simp only [List.nil_append] at hM) | (simp only [List.cons_append, List.nil_append] at hM))
    | (refine at_load_ (T := 47) ?_; first | (refine wpList_loadg_mem (by go_simp) 47 _ rfl 0 _ _ _ hM rfl rfl _ Try.underlying47 rfl sz_Seg ?_) | (refine wpList_loadg_mem (by go_simp) 47 _ rfl 1 _ _ _ hM rfl rfl _ Try.underlying47 rfl sz_Seg ?_) | (refine wpList_loadg_mem (by go_simp) 47 _ rfl 2 _ _ _ hM rfl rfl _ Try.underlying47 rfl sz_Seg ?_) | (refine wpList_loadg_mem (by go_simp) 47 _ rfl 3 _ _ _ hM rfl rfl _ Try.underlying47 rfl sz_Seg ?_))
    | (refine at_store_ (T := 47) ?_; first | (refine wpList_store_mem rfl 47 _ _ rfl 0 _ _ _ _ hM rfl rfl rfl rfl sz_Seg rfl ?_; clear hM; intro W hM; simp only [List.set_cons_zero] at hM) | (refine wpList_store_mem rfl 47 _ _ rfl 1 _ _ _ _ hM rfl rfl rfl rfl sz_Seg rfl ?_; clear hM; intro W hM; simp only [List.set_cons_succ, List.set_cons_zero] at hM) | (refine wpList_store_mem rfl 47 _ _ rfl 2 _ _ _ _ hM rfl rfl rfl rfl sz_Seg rfl ?_; clear hM; intro W hM; simp only [List.set_cons_succ, List.set_cons_zero] at hM) | (refine wpList_store_mem rfl 47 _ _ rfl 3 _ _ _ _ hM rfl rfl rfl rfl sz_Seg rfl ?_; clear hM; intro W hM; simp only [List.set_cons_succ, List.set_cons_zero] at hM)))
  go_ret
  exact ⟨rfl, hM.b⟩
theorem w_TcpAgain (a0 : Int) (a1 : Int) (s2 : ByteArray) (w : World) (ha0 : 0 ≤ a0) (ha0' : a0 ≤ 4294967295) (ha1 : 0 ≤ a1) (ha1' : a1 ≤ 4294967295) (hs2 : s2.size ≤ 140737488351232) :
    Calls Try.prog 9 #[.int .u32 a0, .int .u32 a1, .string s2] w fun e w' => e = .returned (.bool true) ∧ Below w.heap.size w w' := by
  have hR := fun W => tcRead_all a0 a1 s2 W (by omega) ⟨ha0, ha0'⟩ ⟨ha1, ha1'⟩
  by_cases hr : tcErr a0 a1 s2 = 0
  · have hc := tc_read a0 a1 s2 hr
    have hm := optR_bd (tcOpts s2).length (tcOpts s2) 0 (by omega) (by omega)
    have ok : SegOk (tcR a0 a1 s2) := tcR_ok a0 a1 s2 ⟨ha0, ha0'⟩ ⟨ha1, ha1'⟩ (by omega) ⟨by have := hm.1; show _ ≤ (optR (tcOpts s2).length (tcOpts s2) 0).2; omega, by have := hm.2; show (optR (tcOpts s2).length (tcOpts s2) 0).2 ≤ _; omega⟩
    rw [hr, if_pos rfl] at hR
    have h3 := tc_back _ ok hc
    have hz := tcS_size (tcR a0 a1 s2)
    obtain ⟨_, _, _, _, _, hb⟩ := tcChk_ok hc
    have hol : (tcOpt (tcR a0 a1 s2)).length ≤ 4 := by unfold tcOpt; split <;> simp
    have hbz : (tcR a0 a1 s2).b.size = s2.size - (tcTo s2).toNat := by
      show (s2.extract (tcTo s2).toNat s2.size).size = _
      rw [ByteArray.size_extract]; omega
    have hto : 20 ≤ tcTo s2 ∧ 20 ≤ s2.size := by
      unfold tcErr at hr
      split at hr
      · cases hr
      rename_i h20
      split at hr
      · cases hr
      rename_i h1
      exact ⟨by omega, by omega⟩
    have hR2 := fun W => tcRead_all a0 a1 (tcS (tcR a0 a1 s2)) W (by omega) ⟨ha0, ha0'⟩ ⟨ha1, ha1'⟩
    have e1 : tcErr a0 a1 (tcS (tcR a0 a1 s2)) = 0 := h3.1
    have e2 : tcR a0 a1 (tcS (tcR a0 a1 s2)) = tcR a0 a1 s2 := h3.2
    rw [e1, if_pos rfl, e2] at hR2
    exact tcAgain_ok a0 a1 _ s2 _ w (by omega) (by omega) hR (fun W => tcWrite_ok _ W ok hc) hR2
  · rw [if_neg hr] at hR
    exact tcAgain_no a0 a1 _ s2 w hr hR
end Go.Proofs.Ytpjcbjacdkobmaa
