/- The walk of UdpBack: it returns true. -/
import Derived.Test.YtpjcbjacdkobmaaWUdpShort
namespace Go.Proofs.Ytpjcbjacdkobmaa
open Go.RowKit
set_option linter.unusedVariables false

set_option maxRecDepth 100000 in
set_option maxHeartbeats 4000000 in
theorem udBack_nn (p q r : KGram) (s t T : ByteArray) (a b E F G : Int) (w : World) (hE : E ≠ 0) (hF : F ≠ 0)
    (hW : ∀ W, Calls Try.prog 12 #[.agg (cGram p).toArray] W fun e w' => e = .returned (.tuple #[.string ⟨#[]⟩, .int .i64 E]) ∧ Below W.heap.size W w')
    (hC : ∀ W, Calls Try.prog 14 #[.agg (cGram p).toArray] W fun e w' => e = .returned (.int .i64 E) ∧ Below W.heap.size W w')
    (hR : ∀ W, Calls Try.prog 13 #[.int .u32 p.fa, .int .u32 p.ta, .string s] W fun e w' => e = .returned (.tuple #[.agg (cGram q).toArray, .int .i64 F]) ∧ Below W.heap.size W w') :
    Calls Try.prog 3 #[.agg (cGram p).toArray, .string s, .int .i64 a, .int .i64 b] w fun e w' => e = .returned (.bool true) ∧ Below w.heap.size w w' := by
  have hne : ((E : Int) != 0) = true := by simpa using hE
  have hnf : ((F : Int) == 0) = false := by simpa using hF
  have HWR := Lib.hid hW
  have HCR := Lib.hid hC
  have HRR := Lib.hid hR
  have hM := Mem.nil w
  clear hW hC hR
  go_enter Try.func3, Try.ntmps3
  go_wp2_with (first
    | (go_at_call 12; go_must (refine (HWR.out _).mono ?_; rintro e W ⟨rfl, hb⟩; replace hM := hM.kept hb; clear hb))
    | (go_at_call 13; go_must (refine (HRR.out _).mono ?_; rintro e W ⟨rfl, hb⟩; replace hM := hM.kept hb; clear hb))
    | (go_at_call 14; go_must (refine (HCR.out _).mono ?_; rintro e W ⟨rfl, hb⟩; replace hM := hM.kept hb; clear hb))
    | (refine at_eq_ (T := 26) ?_; first | (refine wpList_eq_mem (by go_simp) 26 _ _ _ rfl _ _ rfl rfl eg_Gram _ (eqT_Gram _) ?_) | (refine wpList_eq_mem (by go_simp) 26 _ _ _ rfl _ _ rfl rfl eg_Gram _ (eqF_Gram _ _ (by assumption)) ?_))
    | (refine at_ne_ (T := 26) ?_; first | (refine wpList_ne_mem (by go_simp) 26 _ _ _ rfl _ _ rfl rfl eg_Gram _ (eqT_Gram _) ?_) | (refine wpList_ne_mem (by go_simp) 26 _ _ _ rfl _ _ rfl rfl eg_Gram _ (eqF_Gram _ _ (by assumption)) ?_))
    | (refine at_load_ (T := 22) ?_; first | (refine wpList_load1_mem (by go_simp) 22 _ rfl _ Try.underlying22 rfl 0 _ _ _ _ _ hM rfl rfl rfl ?_) | (refine wpList_load1_mem (by go_simp) 22 _ rfl _ Try.underlying22 rfl 1 _ _ _ _ _ hM rfl rfl rfl ?_) | (refine wpList_load1_mem (by go_simp) 22 _ rfl _ Try.underlying22 rfl 2 _ _ _ _ _ hM rfl rfl rfl ?_) | (refine wpList_load1_mem (by go_simp) 22 _ rfl _ Try.underlying22 rfl 3 _ _ _ _ _ hM rfl rfl rfl ?_))
    | (refine at_load_ (T := 3) ?_; first | (refine wpList_load1_mem (by go_simp) 3 _ rfl _ Try.underlying3 rfl 0 _ _ _ _ _ hM rfl rfl rfl ?_) | (refine wpList_load1_mem (by go_simp) 3 _ rfl _ Try.underlying3 rfl 1 _ _ _ _ _ hM rfl rfl rfl ?_) | (refine wpList_load1_mem (by go_simp) 3 _ rfl _ Try.underlying3 rfl 2 _ _ _ _ _ hM rfl rfl rfl ?_) | (refine wpList_load1_mem (by go_simp) 3 _ rfl _ Try.underlying3 rfl 3 _ _ _ _ _ hM rfl rfl rfl ?_))
    | (refine at_load_ (T := 9) ?_; first | (refine wpList_load1_mem (by go_simp) 9 _ rfl _ Try.underlying9 rfl 0 _ _ _ _ _ hM rfl rfl rfl ?_) | (refine wpList_load1_mem (by go_simp) 9 _ rfl _ Try.underlying9 rfl 1 _ _ _ _ _ hM rfl rfl rfl ?_) | (refine wpList_load1_mem (by go_simp) 9 _ rfl _ Try.underlying9 rfl 2 _ _ _ _ _ hM rfl rfl rfl ?_) | (refine wpList_load1_mem (by go_simp) 9 _ rfl _ Try.underlying9 rfl 3 _ _ _ _ _ hM rfl rfl rfl ?_))
    | (refine at_box_ ?_; refine wpList_box_mem rfl _ _ rfl _ rfl hM ?_; clear hM; intro gb W hM; first | (simp only [List.nil_append] at hM) | (simp only [List.cons_append, List.nil_append] at hM))
    | (refine at_alloc_ (T := 26) ?_; refine wpList_alloc_mem rfl 26 rfl _ zv_Gram _ rfl hM ?_; clear hM; intro gb W hM; first | (simp only [List.nil_append] at hM) | (simp only [List.cons_append, List.nil_append] at hM))
    | (refine at_load_ (T := 26) ?_; first | (refine wpList_loadg_mem (by go_simp) 26 _ rfl 0 _ _ _ hM rfl rfl _ Try.underlying26 rfl sz_Gram ?_) | (refine wpList_loadg_mem (by go_simp) 26 _ rfl 1 _ _ _ hM rfl rfl _ Try.underlying26 rfl sz_Gram ?_) | (refine wpList_loadg_mem (by go_simp) 26 _ rfl 2 _ _ _ hM rfl rfl _ Try.underlying26 rfl sz_Gram ?_) | (refine wpList_loadg_mem (by go_simp) 26 _ rfl 3 _ _ _ hM rfl rfl _ Try.underlying26 rfl sz_Gram ?_))
    | (refine at_store_ (T := 26) ?_; first | (refine wpList_store_mem rfl 26 _ _ rfl 0 _ _ _ _ hM rfl rfl rfl rfl sz_Gram rfl ?_; clear hM; intro W hM; simp only [List.set_cons_zero] at hM) | (refine wpList_store_mem rfl 26 _ _ rfl 1 _ _ _ _ hM rfl rfl rfl rfl sz_Gram rfl ?_; clear hM; intro W hM; simp only [List.set_cons_succ, List.set_cons_zero] at hM) | (refine wpList_store_mem rfl 26 _ _ rfl 2 _ _ _ _ hM rfl rfl rfl rfl sz_Gram rfl ?_; clear hM; intro W hM; simp only [List.set_cons_succ, List.set_cons_zero] at hM) | (refine wpList_store_mem rfl 26 _ _ rfl 3 _ _ _ _ hM rfl rfl rfl rfl sz_Gram rfl ?_; clear hM; intro W hM; simp only [List.set_cons_succ, List.set_cons_zero] at hM)))
  go_ret
  exact ⟨rfl, hM.b⟩
set_option maxRecDepth 100000 in
set_option maxHeartbeats 4000000 in
theorem udBack_nr (p q r : KGram) (s t T : ByteArray) (a b E F G : Int) (w : World) (hE : E ≠ 0)
    (hW : ∀ W, Calls Try.prog 12 #[.agg (cGram p).toArray] W fun e w' => e = .returned (.tuple #[.string ⟨#[]⟩, .int .i64 E]) ∧ Below W.heap.size W w')
    (hC : ∀ W, Calls Try.prog 14 #[.agg (cGram p).toArray] W fun e w' => e = .returned (.int .i64 E) ∧ Below W.heap.size W w')
    (hR : ∀ W, Calls Try.prog 13 #[.int .u32 p.fa, .int .u32 p.ta, .string s] W fun e w' => e = .returned (.tuple #[.agg (cGram q).toArray, .int .i64 0]) ∧ Below W.heap.size W w')
    (hW2 : ∀ W, Calls Try.prog 12 #[.agg (cGram q).toArray] W fun e w' => e = .returned (.tuple #[.string s, .int .i64 0]) ∧ Below W.heap.size W w') :
    Calls Try.prog 3 #[.agg (cGram p).toArray, .string s, .int .i64 a, .int .i64 b] w fun e w' => e = .returned (.bool true) ∧ Below w.heap.size w w' := by
  have hne : ((E : Int) != 0) = true := by simpa using hE
  have HWR := Lib.hid hW
  have HCR := Lib.hid hC
  have HRR := Lib.hid hR
  have HW2 := Lib.hid hW2
  have hM := Mem.nil w
  clear hW hC hR hW2
  go_enter Try.func3, Try.ntmps3
  go_wp2_with (first
    | (go_at_call 12; first | (with_reducible refine (HWR.out _).mono ?_; rintro e W ⟨rfl, hb⟩; replace hM := hM.kept hb; clear hb) | (with_reducible refine (HW2.out _).mono ?_; rintro e W ⟨rfl, hb⟩; replace hM := hM.kept hb; clear hb))
    | (go_at_call 13; go_must (refine (HRR.out _).mono ?_; rintro e W ⟨rfl, hb⟩; replace hM := hM.kept hb; clear hb))
    | (go_at_call 14; go_must (refine (HCR.out _).mono ?_; rintro e W ⟨rfl, hb⟩; replace hM := hM.kept hb; clear hb))
    | (refine at_eq_ (T := 26) ?_; first | (refine wpList_eq_mem (by go_simp) 26 _ _ _ rfl _ _ rfl rfl eg_Gram _ (eqT_Gram _) ?_) | (refine wpList_eq_mem (by go_simp) 26 _ _ _ rfl _ _ rfl rfl eg_Gram _ (eqF_Gram _ _ (by assumption)) ?_))
    | (refine at_ne_ (T := 26) ?_; first | (refine wpList_ne_mem (by go_simp) 26 _ _ _ rfl _ _ rfl rfl eg_Gram _ (eqT_Gram _) ?_) | (refine wpList_ne_mem (by go_simp) 26 _ _ _ rfl _ _ rfl rfl eg_Gram _ (eqF_Gram _ _ (by assumption)) ?_))
    | (refine at_load_ (T := 22) ?_; first | (refine wpList_load1_mem (by go_simp) 22 _ rfl _ Try.underlying22 rfl 0 _ _ _ _ _ hM rfl rfl rfl ?_) | (refine wpList_load1_mem (by go_simp) 22 _ rfl _ Try.underlying22 rfl 1 _ _ _ _ _ hM rfl rfl rfl ?_) | (refine wpList_load1_mem (by go_simp) 22 _ rfl _ Try.underlying22 rfl 2 _ _ _ _ _ hM rfl rfl rfl ?_) | (refine wpList_load1_mem (by go_simp) 22 _ rfl _ Try.underlying22 rfl 3 _ _ _ _ _ hM rfl rfl rfl ?_))
    | (refine at_load_ (T := 3) ?_; first | (refine wpList_load1_mem (by go_simp) 3 _ rfl _ Try.underlying3 rfl 0 _ _ _ _ _ hM rfl rfl rfl ?_) | (refine wpList_load1_mem (by go_simp) 3 _ rfl _ Try.underlying3 rfl 1 _ _ _ _ _ hM rfl rfl rfl ?_) | (refine wpList_load1_mem (by go_simp) 3 _ rfl _ Try.underlying3 rfl 2 _ _ _ _ _ hM rfl rfl rfl ?_) | (refine wpList_load1_mem (by go_simp) 3 _ rfl _ Try.underlying3 rfl 3 _ _ _ _ _ hM rfl rfl rfl ?_))
    | (refine at_load_ (T := 9) ?_; first | (refine wpList_load1_mem (by go_simp) 9 _ rfl _ Try.underlying9 rfl 0 _ _ _ _ _ hM rfl rfl rfl ?_) | (refine wpList_load1_mem (by go_simp) 9 _ rfl _ Try.underlying9 rfl 1 _ _ _ _ _ hM rfl rfl rfl ?_) | (refine wpList_load1_mem (by go_simp) 9 _ rfl _ Try.underlying9 rfl 2 _ _ _ _ _ hM rfl rfl rfl ?_) | (refine wpList_load1_mem (by go_simp) 9 _ rfl _ Try.underlying9 rfl 3 _ _ _ _ _ hM rfl rfl rfl ?_))
    | (refine at_box_ ?_; refine wpList_box_mem rfl _ _ rfl _ rfl hM ?_; clear hM; intro gb W hM; first | (simp only [List.nil_append] at hM) | (simp only [List.cons_append, List.nil_append] at hM))
    | (refine at_alloc_ (T := 26) ?_; refine wpList_alloc_mem rfl 26 rfl _ zv_Gram _ rfl hM ?_; clear hM; intro gb W hM; first | (simp only [List.nil_append] at hM) | (simp only [List.cons_append, List.nil_append] at hM))
    | (refine at_load_ (T := 26) ?_; first | (refine wpList_loadg_mem (by go_simp) 26 _ rfl 0 _ _ _ hM rfl rfl _ Try.underlying26 rfl sz_Gram ?_) | (refine wpList_loadg_mem (by go_simp) 26 _ rfl 1 _ _ _ hM rfl rfl _ Try.underlying26 rfl sz_Gram ?_) | (refine wpList_loadg_mem (by go_simp) 26 _ rfl 2 _ _ _ hM rfl rfl _ Try.underlying26 rfl sz_Gram ?_) | (refine wpList_loadg_mem (by go_simp) 26 _ rfl 3 _ _ _ hM rfl rfl _ Try.underlying26 rfl sz_Gram ?_))
    | (refine at_store_ (T := 26) ?_; first | (refine wpList_store_mem rfl 26 _ _ rfl 0 _ _ _ _ hM rfl rfl rfl rfl sz_Gram rfl ?_; clear hM; intro W hM; simp only [List.set_cons_zero] at hM) | (refine wpList_store_mem rfl 26 _ _ rfl 1 _ _ _ _ hM rfl rfl rfl rfl sz_Gram rfl ?_; clear hM; intro W hM; simp only [List.set_cons_succ, List.set_cons_zero] at hM) | (refine wpList_store_mem rfl 26 _ _ rfl 2 _ _ _ _ hM rfl rfl rfl rfl sz_Gram rfl ?_; clear hM; intro W hM; simp only [List.set_cons_succ, List.set_cons_zero] at hM) | (refine wpList_store_mem rfl 26 _ _ rfl 3 _ _ _ _ hM rfl rfl rfl rfl sz_Gram rfl ?_; clear hM; intro W hM; simp only [List.set_cons_succ, List.set_cons_zero] at hM)))
  go_ret
  exact ⟨rfl, hM.b⟩
set_option maxRecDepth 100000 in
set_option maxHeartbeats 4000000 in
theorem udBack_on (p q r : KGram) (s t T : ByteArray) (a b E F G : Int) (w : World) (hG : G ≠ 0) (ht : (t.size : Int) = 8 + (p.b.size : Int)) (ht2 : p.b.size ≤ 1000) (hF : F ≠ 0)
    (hW : ∀ W, Calls Try.prog 12 #[.agg (cGram p).toArray] W fun e w' => e = .returned (.tuple #[.string t, .int .i64 0]) ∧ Below W.heap.size W w')
    (hC : ∀ W, Calls Try.prog 14 #[.agg (cGram p).toArray] W fun e w' => e = .returned (.int .i64 E) ∧ Below W.heap.size W w')
    (hR : ∀ W, Calls Try.prog 13 #[.int .u32 p.fa, .int .u32 p.ta, .string s] W fun e w' => e = .returned (.tuple #[.agg (cGram q).toArray, .int .i64 F]) ∧ Below W.heap.size W w')
    (hR2 : ∀ W, Calls Try.prog 13 #[.int .u32 p.fa, .int .u32 p.ta, .string t] W fun e w' => e = .returned (.tuple #[.agg (cGram p).toArray, .int .i64 0]) ∧ Below W.heap.size W w')
    (hT : ∀ W, Calls Try.prog 15 #[.string t, .int .i64 a, .int .i64 b] W fun e w' => e = .returned (.string T) ∧ Below W.heap.size W w')
    (hR3 : ∀ W, Calls Try.prog 13 #[.int .u32 p.fa, .int .u32 p.ta, .string T] W fun e w' => e = .returned (.tuple #[.agg (cGram r).toArray, .int .i64 G]) ∧ Below W.heap.size W w') :
    Calls Try.prog 3 #[.agg (cGram p).toArray, .string s, .int .i64 a, .int .i64 b] w fun e w' => e = .returned (.bool true) ∧ Below w.heap.size w w' := by
  have hnf : ((F : Int) == 0) = false := by simpa using hF
  have HWR := Lib.hid hW
  have HCR := Lib.hid hC
  have HRR := Lib.hid hR
  have HR2 := Lib.hid hR2
  have HTT := Lib.hid (fun (w1 : World) (u : Later w1) => hT u.now)
  have HR3 := Lib.hid (fun (w1 : World) (u : Later w1) => hR3 u.now)
  have hM := Mem.nil w
  clear hW hC hR hR2 hT hR3
  go_enter Try.func3, Try.ntmps3
  go_upto_region 12 with         (first
          | (go_at_call 12; go_must (refine (HWR.out _).mono ?_; rintro e W ⟨rfl, hb⟩; replace hM := hM.kept hb; clear hb))
          | (go_at_call 13; first | (with_reducible refine (HRR.out _).mono ?_; rintro e W ⟨rfl, hb⟩; replace hM := hM.kept hb; clear hb) | (with_reducible refine (HR2.out _).mono ?_; rintro e W ⟨rfl, hb⟩; replace hM := hM.kept hb; clear hb))
          | (go_at_call 14; go_must (refine (HCR.out _).mono ?_; rintro e W ⟨rfl, hb⟩; replace hM := hM.kept hb; clear hb))
          | (refine at_eq_ (T := 26) ?_; first | (refine wpList_eq_mem (by go_simp) 26 _ _ _ rfl _ _ rfl rfl eg_Gram _ (eqT_Gram _) ?_) | (refine wpList_eq_mem (by go_simp) 26 _ _ _ rfl _ _ rfl rfl eg_Gram _ (eqF_Gram _ _ (by assumption)) ?_))
          | (refine at_ne_ (T := 26) ?_; first | (refine wpList_ne_mem (by go_simp) 26 _ _ _ rfl _ _ rfl rfl eg_Gram _ (eqT_Gram _) ?_) | (refine wpList_ne_mem (by go_simp) 26 _ _ _ rfl _ _ rfl rfl eg_Gram _ (eqF_Gram _ _ (by assumption)) ?_))
          | (refine at_load_ (T := 22) ?_; first | (refine wpList_load1_mem (by go_simp) 22 _ rfl _ Try.underlying22 rfl 0 _ _ _ _ _ hM rfl rfl rfl ?_) | (refine wpList_load1_mem (by go_simp) 22 _ rfl _ Try.underlying22 rfl 1 _ _ _ _ _ hM rfl rfl rfl ?_) | (refine wpList_load1_mem (by go_simp) 22 _ rfl _ Try.underlying22 rfl 2 _ _ _ _ _ hM rfl rfl rfl ?_) | (refine wpList_load1_mem (by go_simp) 22 _ rfl _ Try.underlying22 rfl 3 _ _ _ _ _ hM rfl rfl rfl ?_))
          | (refine at_load_ (T := 3) ?_; first | (refine wpList_load1_mem (by go_simp) 3 _ rfl _ Try.underlying3 rfl 0 _ _ _ _ _ hM rfl rfl rfl ?_) | (refine wpList_load1_mem (by go_simp) 3 _ rfl _ Try.underlying3 rfl 1 _ _ _ _ _ hM rfl rfl rfl ?_) | (refine wpList_load1_mem (by go_simp) 3 _ rfl _ Try.underlying3 rfl 2 _ _ _ _ _ hM rfl rfl rfl ?_) | (refine wpList_load1_mem (by go_simp) 3 _ rfl _ Try.underlying3 rfl 3 _ _ _ _ _ hM rfl rfl rfl ?_))
          | (refine at_load_ (T := 9) ?_; first | (refine wpList_load1_mem (by go_simp) 9 _ rfl _ Try.underlying9 rfl 0 _ _ _ _ _ hM rfl rfl rfl ?_) | (refine wpList_load1_mem (by go_simp) 9 _ rfl _ Try.underlying9 rfl 1 _ _ _ _ _ hM rfl rfl rfl ?_) | (refine wpList_load1_mem (by go_simp) 9 _ rfl _ Try.underlying9 rfl 2 _ _ _ _ _ hM rfl rfl rfl ?_) | (refine wpList_load1_mem (by go_simp) 9 _ rfl _ Try.underlying9 rfl 3 _ _ _ _ _ hM rfl rfl rfl ?_))
          | (refine at_box_ ?_; refine wpList_box_mem rfl _ _ rfl _ rfl hM ?_; clear hM; intro gb W hM; first | (simp only [List.nil_append] at hM) | (simp only [List.cons_append, List.nil_append] at hM))
          | (refine at_alloc_ (T := 26) ?_; refine wpList_alloc_mem rfl 26 rfl _ zv_Gram _ rfl hM ?_; clear hM; intro gb W hM; first | (simp only [List.nil_append] at hM) | (simp only [List.cons_append, List.nil_append] at hM))
          | (refine at_load_ (T := 26) ?_; first | (refine wpList_loadg_mem (by go_simp) 26 _ rfl 0 _ _ _ hM rfl rfl _ Try.underlying26 rfl sz_Gram ?_) | (refine wpList_loadg_mem (by go_simp) 26 _ rfl 1 _ _ _ hM rfl rfl _ Try.underlying26 rfl sz_Gram ?_) | (refine wpList_loadg_mem (by go_simp) 26 _ rfl 2 _ _ _ hM rfl rfl _ Try.underlying26 rfl sz_Gram ?_) | (refine wpList_loadg_mem (by go_simp) 26 _ rfl 3 _ _ _ hM rfl rfl _ Try.underlying26 rfl sz_Gram ?_))
          | (refine at_store_ (T := 26) ?_; first | (refine wpList_store_mem rfl 26 _ _ rfl 0 _ _ _ _ hM rfl rfl rfl rfl sz_Gram rfl ?_; clear hM; intro W hM; simp only [List.set_cons_zero] at hM) | (refine wpList_store_mem rfl 26 _ _ rfl 1 _ _ _ _ hM rfl rfl rfl rfl sz_Gram rfl ?_; clear hM; intro W hM; simp only [List.set_cons_succ, List.set_cons_zero] at hM) | (refine wpList_store_mem rfl 26 _ _ rfl 2 _ _ _ _ hM rfl rfl rfl rfl sz_Gram rfl ?_; clear hM; intro W hM; simp only [List.set_cons_succ, List.set_cons_zero] at hM) | (refine wpList_store_mem rfl 26 _ _ rfl 3 _ _ _ _ hM rfl rfl rfl rfl sz_Gram rfl ?_; clear hM; intro W hM; simp only [List.set_cons_succ, List.set_cons_zero] at hM)))
  clear HWR HRR HCR HR2
  refine wp_region_mix0 14 17 [.al 26 zGram, .st 14 26 (cGram r), .q (.int .i64 G)] _ hM (by kernel_rfl) (by kernel_rfl) (by kernel_rfl) (by kernel_rfl) rfl ?_
  apply Exists.intro
  refine ⟨?hq, ?hr⟩
  case hq =>
    intro w1 hM1 hlc
    have hc0 := hM1.cells 0 rfl
    have hlt0 := hM1.lt 0 rfl
    simp only [cGram] at hc0
    simp only [List.take_succ_cons, List.take_zero]
    repeat (go_big_quiet_step (first | (go_at_call 15; first | (with_reducible exact later_call (HTT.out _ _))) | (go_at_call 13; first | (with_reducible exact later_call (HR3.out _ _)))))
    exact wpQuiet_nil rfl
  simp only [List.drop_succ_cons, List.drop_zero]
  refine ⟨rfl, rfl, zv_Gram, rfl, fun gx0 => ?_⟩
  refine ⟨_, _, _, _, rfl, rfl, rfl, rfl, rfl, rfl, rfl, sz_Gram, rfl, ?_⟩
  refine ⟨⟨_, .inl rfl, rfl, rfl⟩, ?_⟩
  intro W hF
  clear hM
  have hM : Mem _ W [atR _ _ _, atR _ _ _, atR _ _ _, atR _ _ _] := Mem.ofLf hF [17, 18, 19, 14] (by decide) rfl
  clear hF
  simp only [Act.put, List.setIfInBounds_toArray, List.set_cons_zero, List.set_cons_succ]
  have hng : ((G : Int) != 0) = true := by simpa using hG
  go_wp2_with (first
    | (refine at_eq_ (T := 26) ?_; first | (refine wpList_eq_mem (by go_simp) 26 _ _ _ rfl _ _ rfl rfl eg_Gram _ (eqT_Gram _) ?_) | (refine wpList_eq_mem (by go_simp) 26 _ _ _ rfl _ _ rfl rfl eg_Gram _ (eqF_Gram _ _ (by assumption)) ?_))
    | (refine at_ne_ (T := 26) ?_; first | (refine wpList_ne_mem (by go_simp) 26 _ _ _ rfl _ _ rfl rfl eg_Gram _ (eqT_Gram _) ?_) | (refine wpList_ne_mem (by go_simp) 26 _ _ _ rfl _ _ rfl rfl eg_Gram _ (eqF_Gram _ _ (by assumption)) ?_))
    | (refine at_load_ (T := 22) ?_; first | (refine wpList_load1_mem (by go_simp) 22 _ rfl _ Try.underlying22 rfl 0 _ _ _ _ _ hM rfl rfl rfl ?_) | (refine wpList_load1_mem (by go_simp) 22 _ rfl _ Try.underlying22 rfl 1 _ _ _ _ _ hM rfl rfl rfl ?_) | (refine wpList_load1_mem (by go_simp) 22 _ rfl _ Try.underlying22 rfl 2 _ _ _ _ _ hM rfl rfl rfl ?_) | (refine wpList_load1_mem (by go_simp) 22 _ rfl _ Try.underlying22 rfl 3 _ _ _ _ _ hM rfl rfl rfl ?_))
    | (refine at_load_ (T := 3) ?_; first | (refine wpList_load1_mem (by go_simp) 3 _ rfl _ Try.underlying3 rfl 0 _ _ _ _ _ hM rfl rfl rfl ?_) | (refine wpList_load1_mem (by go_simp) 3 _ rfl _ Try.underlying3 rfl 1 _ _ _ _ _ hM rfl rfl rfl ?_) | (refine wpList_load1_mem (by go_simp) 3 _ rfl _ Try.underlying3 rfl 2 _ _ _ _ _ hM rfl rfl rfl ?_) | (refine wpList_load1_mem (by go_simp) 3 _ rfl _ Try.underlying3 rfl 3 _ _ _ _ _ hM rfl rfl rfl ?_))
    | (refine at_load_ (T := 9) ?_; first | (refine wpList_load1_mem (by go_simp) 9 _ rfl _ Try.underlying9 rfl 0 _ _ _ _ _ hM rfl rfl rfl ?_) | (refine wpList_load1_mem (by go_simp) 9 _ rfl _ Try.underlying9 rfl 1 _ _ _ _ _ hM rfl rfl rfl ?_) | (refine wpList_load1_mem (by go_simp) 9 _ rfl _ Try.underlying9 rfl 2 _ _ _ _ _ hM rfl rfl rfl ?_) | (refine wpList_load1_mem (by go_simp) 9 _ rfl _ Try.underlying9 rfl 3 _ _ _ _ _ hM rfl rfl rfl ?_))
    | (refine at_box_ ?_; refine wpList_box_mem rfl _ _ rfl _ rfl hM ?_; clear hM; intro gb W hM; first | (simp only [List.nil_append] at hM) | (simp only [List.cons_append, List.nil_append] at hM))
    | (refine at_alloc_ (T := 26) ?_; refine wpList_alloc_mem rfl 26 rfl _ zv_Gram _ rfl hM ?_; clear hM; intro gb W hM; first | (simp only [List.nil_append] at hM) | (simp only [List.cons_append, List.nil_append] at hM))
    | (refine at_load_ (T := 26) ?_; first | (refine wpList_loadg_mem (by go_simp) 26 _ rfl 0 _ _ _ hM rfl rfl _ Try.underlying26 rfl sz_Gram ?_) | (refine wpList_loadg_mem (by go_simp) 26 _ rfl 1 _ _ _ hM rfl rfl _ Try.underlying26 rfl sz_Gram ?_) | (refine wpList_loadg_mem (by go_simp) 26 _ rfl 2 _ _ _ hM rfl rfl _ Try.underlying26 rfl sz_Gram ?_) | (refine wpList_loadg_mem (by go_simp) 26 _ rfl 3 _ _ _ hM rfl rfl _ Try.underlying26 rfl sz_Gram ?_))
    | (refine at_store_ (T := 26) ?_; first | (refine wpList_store_mem rfl 26 _ _ rfl 0 _ _ _ _ hM rfl rfl rfl rfl sz_Gram rfl ?_; clear hM; intro W hM; simp only [List.set_cons_zero] at hM) | (refine wpList_store_mem rfl 26 _ _ rfl 1 _ _ _ _ hM rfl rfl rfl rfl sz_Gram rfl ?_; clear hM; intro W hM; simp only [List.set_cons_succ, List.set_cons_zero] at hM) | (refine wpList_store_mem rfl 26 _ _ rfl 2 _ _ _ _ hM rfl rfl rfl rfl sz_Gram rfl ?_; clear hM; intro W hM; simp only [List.set_cons_succ, List.set_cons_zero] at hM) | (refine wpList_store_mem rfl 26 _ _ rfl 3 _ _ _ _ hM rfl rfl rfl rfl sz_Gram rfl ?_; clear hM; intro W hM; simp only [List.set_cons_succ, List.set_cons_zero] at hM)))
  go_ret
  exact ⟨rfl, hM.b⟩
set_option maxRecDepth 100000 in
set_option maxHeartbeats 4000000 in
theorem udBack_or (p q r : KGram) (s t T : ByteArray) (a b E F G : Int) (w : World) (hG : G ≠ 0) (ht : (t.size : Int) = 8 + (p.b.size : Int)) (ht2 : p.b.size ≤ 1000)
    (hW : ∀ W, Calls Try.prog 12 #[.agg (cGram p).toArray] W fun e w' => e = .returned (.tuple #[.string t, .int .i64 0]) ∧ Below W.heap.size W w')
    (hC : ∀ W, Calls Try.prog 14 #[.agg (cGram p).toArray] W fun e w' => e = .returned (.int .i64 E) ∧ Below W.heap.size W w')
    (hR : ∀ W, Calls Try.prog 13 #[.int .u32 p.fa, .int .u32 p.ta, .string s] W fun e w' => e = .returned (.tuple #[.agg (cGram q).toArray, .int .i64 0]) ∧ Below W.heap.size W w')
    (hW2 : ∀ W, Calls Try.prog 12 #[.agg (cGram q).toArray] W fun e w' => e = .returned (.tuple #[.string s, .int .i64 0]) ∧ Below W.heap.size W w')
    (hR2 : ∀ W, Calls Try.prog 13 #[.int .u32 p.fa, .int .u32 p.ta, .string t] W fun e w' => e = .returned (.tuple #[.agg (cGram p).toArray, .int .i64 0]) ∧ Below W.heap.size W w')
    (hT : ∀ W, Calls Try.prog 15 #[.string t, .int .i64 a, .int .i64 b] W fun e w' => e = .returned (.string T) ∧ Below W.heap.size W w')
    (hR3 : ∀ W, Calls Try.prog 13 #[.int .u32 p.fa, .int .u32 p.ta, .string T] W fun e w' => e = .returned (.tuple #[.agg (cGram r).toArray, .int .i64 G]) ∧ Below W.heap.size W w') :
    Calls Try.prog 3 #[.agg (cGram p).toArray, .string s, .int .i64 a, .int .i64 b] w fun e w' => e = .returned (.bool true) ∧ Below w.heap.size w w' := by
  have HWR := Lib.hid hW
  have HCR := Lib.hid hC
  have HRR := Lib.hid hR
  have HW2 := Lib.hid hW2
  have HR2 := Lib.hid hR2
  have HTT := Lib.hid (fun (w1 : World) (u : Later w1) => hT u.now)
  have HR3 := Lib.hid (fun (w1 : World) (u : Later w1) => hR3 u.now)
  have hM := Mem.nil w
  clear hW hC hR hW2 hR2 hT hR3
  go_enter Try.func3, Try.ntmps3
  go_upto_region 12 with         (first
          | (go_at_call 12; first | (with_reducible refine (HWR.out _).mono ?_; rintro e W ⟨rfl, hb⟩; replace hM := hM.kept hb; clear hb) | (with_reducible refine (HW2.out _).mono ?_; rintro e W ⟨rfl, hb⟩; replace hM := hM.kept hb; clear hb))
          | (go_at_call 13; first | (with_reducible refine (HRR.out _).mono ?_; rintro e W ⟨rfl, hb⟩; replace hM := hM.kept hb; clear hb) | (with_reducible refine (HR2.out _).mono ?_; rintro e W ⟨rfl, hb⟩; replace hM := hM.kept hb; clear hb))
          | (go_at_call 14; go_must (refine (HCR.out _).mono ?_; rintro e W ⟨rfl, hb⟩; replace hM := hM.kept hb; clear hb))
          | (refine at_eq_ (T := 26) ?_; first | (refine wpList_eq_mem (by go_simp) 26 _ _ _ rfl _ _ rfl rfl eg_Gram _ (eqT_Gram _) ?_) | (refine wpList_eq_mem (by go_simp) 26 _ _ _ rfl _ _ rfl rfl eg_Gram _ (eqF_Gram _ _ (by assumption)) ?_))
          | (refine at_ne_ (T := 26) ?_; first | (refine wpList_ne_mem (by go_simp) 26 _ _ _ rfl _ _ rfl rfl eg_Gram _ (eqT_Gram _) ?_) | (refine wpList_ne_mem (by go_simp) 26 _ _ _ rfl _ _ rfl rfl eg_Gram _ (eqF_Gram _ _ (by assumption)) ?_))
          | (refine at_load_ (T := 22) ?_; first | (refine wpList_load1_mem (by go_simp) 22 _ rfl _ Try.underlying22 rfl 0 _ _ _ _ _ hM rfl rfl rfl ?_) | (refine wpList_load1_mem (by go_simp) 22 _ rfl _ Try.underlying22 rfl 1 _ _ _ _ _ hM rfl rfl rfl ?_) | (refine wpList_load1_mem (by go_simp) 22 _ rfl _ Try.underlying22 rfl 2 _ _ _ _ _ hM rfl rfl rfl ?_) | (refine wpList_load1_mem (by go_simp) 22 _ rfl _ Try.underlying22 rfl 3 _ _ _ _ _ hM rfl rfl rfl ?_))
          | (refine at_load_ (T := 3) ?_; first | (refine wpList_load1_mem (by go_simp) 3 _ rfl _ Try.underlying3 rfl 0 _ _ _ _ _ hM rfl rfl rfl ?_) | (refine wpList_load1_mem (by go_simp) 3 _ rfl _ Try.underlying3 rfl 1 _ _ _ _ _ hM rfl rfl rfl ?_) | (refine wpList_load1_mem (by go_simp) 3 _ rfl _ Try.underlying3 rfl 2 _ _ _ _ _ hM rfl rfl rfl ?_) | (refine wpList_load1_mem (by go_simp) 3 _ rfl _ Try.underlying3 rfl 3 _ _ _ _ _ hM rfl rfl rfl ?_))
          | (refine at_load_ (T := 9) ?_; first | (refine wpList_load1_mem (by go_simp) 9 _ rfl _ Try.underlying9 rfl 0 _ _ _ _ _ hM rfl rfl rfl ?_) | (refine wpList_load1_mem (by go_simp) 9 _ rfl _ Try.underlying9 rfl 1 _ _ _ _ _ hM rfl rfl rfl ?_) | (refine wpList_load1_mem (by go_simp) 9 _ rfl _ Try.underlying9 rfl 2 _ _ _ _ _ hM rfl rfl rfl ?_) | (refine wpList_load1_mem (by go_simp) 9 _ rfl _ Try.underlying9 rfl 3 _ _ _ _ _ hM rfl rfl rfl ?_))
          | (refine at_box_ ?_; refine wpList_box_mem rfl _ _ rfl _ rfl hM ?_; clear hM; intro gb W hM; first | (simp only [List.nil_append] at hM) | (simp only [List.cons_append, List.nil_append] at hM))
          | (refine at_alloc_ (T := 26) ?_; refine wpList_alloc_mem rfl 26 rfl _ zv_Gram _ rfl hM ?_; clear hM; intro gb W hM; first | (simp only [List.nil_append] at hM) | (simp only [List.cons_append, List.nil_append] at hM))
          | (refine at_load_ (T := 26) ?_; first | (refine wpList_loadg_mem (by go_simp) 26 _ rfl 0 _ _ _ hM rfl rfl _ Try.underlying26 rfl sz_Gram ?_) | (refine wpList_loadg_mem (by go_simp) 26 _ rfl 1 _ _ _ hM rfl rfl _ Try.underlying26 rfl sz_Gram ?_) | (refine wpList_loadg_mem (by go_simp) 26 _ rfl 2 _ _ _ hM rfl rfl _ Try.underlying26 rfl sz_Gram ?_) | (refine wpList_loadg_mem (by go_simp) 26 _ rfl 3 _ _ _ hM rfl rfl _ Try.underlying26 rfl sz_Gram ?_))
          | (refine at_store_ (T := 26) ?_; first | (refine wpList_store_mem rfl 26 _ _ rfl 0 _ _ _ _ hM rfl rfl rfl rfl sz_Gram rfl ?_; clear hM; intro W hM; simp only [List.set_cons_zero] at hM) | (refine wpList_store_mem rfl 26 _ _ rfl 1 _ _ _ _ hM rfl rfl rfl rfl sz_Gram rfl ?_; clear hM; intro W hM; simp only [List.set_cons_succ, List.set_cons_zero] at hM) | (refine wpList_store_mem rfl 26 _ _ rfl 2 _ _ _ _ hM rfl rfl rfl rfl sz_Gram rfl ?_; clear hM; intro W hM; simp only [List.set_cons_succ, List.set_cons_zero] at hM) | (refine wpList_store_mem rfl 26 _ _ rfl 3 _ _ _ _ hM rfl rfl rfl rfl sz_Gram rfl ?_; clear hM; intro W hM; simp only [List.set_cons_succ, List.set_cons_zero] at hM)))
  clear HWR HRR HCR HR2
  refine wp_region_mix0 14 17 [.al 26 zGram, .st 14 26 (cGram r), .q (.int .i64 G)] _ hM (by kernel_rfl) (by kernel_rfl) (by kernel_rfl) (by kernel_rfl) rfl ?_
  apply Exists.intro
  refine ⟨?hq, ?hr⟩
  case hq =>
    intro w1 hM1 hlc
    have hc0 := hM1.cells 0 rfl
    have hlt0 := hM1.lt 0 rfl
    simp only [cGram] at hc0
    simp only [List.take_succ_cons, List.take_zero]
    repeat (go_big_quiet_step (first | (go_at_call 15; first | (with_reducible exact later_call (HTT.out _ _))) | (go_at_call 13; first | (with_reducible exact later_call (HR3.out _ _)))))
    exact wpQuiet_nil rfl
  simp only [List.drop_succ_cons, List.drop_zero]
  refine ⟨rfl, rfl, zv_Gram, rfl, fun gx0 => ?_⟩
  refine ⟨_, _, _, _, rfl, rfl, rfl, rfl, rfl, rfl, rfl, sz_Gram, rfl, ?_⟩
  refine ⟨⟨_, .inl rfl, rfl, rfl⟩, ?_⟩
  intro W hF
  clear hM
  have hM : Mem _ W [atR _ _ _, atR _ _ _, atR _ _ _, atR _ _ _] := Mem.ofLf hF [17, 18, 19, 14] (by decide) rfl
  clear hF
  simp only [Act.put, List.setIfInBounds_toArray, List.set_cons_zero, List.set_cons_succ]
  have hng : ((G : Int) != 0) = true := by simpa using hG
  go_wp2_with (first
    | (refine at_eq_ (T := 26) ?_; first | (refine wpList_eq_mem (by go_simp) 26 _ _ _ rfl _ _ rfl rfl eg_Gram _ (eqT_Gram _) ?_) | (refine wpList_eq_mem (by go_simp) 26 _ _ _ rfl _ _ rfl rfl eg_Gram _ (eqF_Gram _ _ (by assumption)) ?_))
    | (refine at_ne_ (T := 26) ?_; first | (refine wpList_ne_mem (by go_simp) 26 _ _ _ rfl _ _ rfl rfl eg_Gram _ (eqT_Gram _) ?_) | (refine wpList_ne_mem (by go_simp) 26 _ _ _ rfl _ _ rfl rfl eg_Gram _ (eqF_Gram _ _ (by assumption)) ?_))
    | (refine at_load_ (T := 22) ?_; first | (refine wpList_load1_mem (by go_simp) 22 _ rfl _ Try.underlying22 rfl 0 _ _ _ _ _ hM rfl rfl rfl ?_) | (refine wpList_load1_mem (by go_simp) 22 _ rfl _ Try.underlying22 rfl 1 _ _ _ _ _ hM rfl rfl rfl ?_) | (refine wpList_load1_mem (by go_simp) 22 _ rfl _ Try.underlying22 rfl 2 _ _ _ _ _ hM rfl rfl rfl ?_) | (refine wpList_load1_mem (by go_simp) 22 _ rfl _ Try.underlying22 rfl 3 _ _ _ _ _ hM rfl rfl rfl ?_))
    | (refine at_load_ (T := 3) ?_; first | (refine wpList_load1_mem (by go_simp) 3 _ rfl _ Try.underlying3 rfl 0 _ _ _ _ _ hM rfl rfl rfl ?_) | (refine wpList_load1_mem (by go_simp) 3 _ rfl _ Try.underlying3 rfl 1 _ _ _ _ _ hM rfl rfl rfl ?_) | (refine wpList_load1_mem (by go_simp) 3 _ rfl _ Try.underlying3 rfl 2 _ _ _ _ _ hM rfl rfl rfl ?_) | (refine wpList_load1_mem (by go_simp) 3 _ rfl _ Try.underlying3 rfl 3 _ _ _ _ _ hM rfl rfl rfl ?_))
    | (refine at_load_ (T := 9) ?_; first | (refine wpList_load1_mem (by go_simp) 9 _ rfl _ Try.underlying9 rfl 0 _ _ _ _ _ hM rfl rfl rfl ?_) | (refine wpList_load1_mem (by go_simp) 9 _ rfl _ Try.underlying9 rfl 1 _ _ _ _ _ hM rfl rfl rfl ?_) | (refine wpList_load1_mem (by go_simp) 9 _ rfl _ Try.underlying9 rfl 2 _ _ _ _ _ hM rfl rfl rfl ?_) | (refine wpList_load1_mem (by go_simp) 9 _ rfl _ Try.underlying9 rfl 3 _ _ _ _ _ hM rfl rfl rfl ?_))
    | (refine at_box_ ?_; refine wpList_box_mem rfl _ _ rfl _ rfl hM ?_; clear hM; intro gb W hM; first | (simp only [List.nil_append] at hM) | (simp only [List.cons_append, List.nil_append] at hM))
    | (refine at_alloc_ (T := 26) ?_; refine wpList_alloc_mem rfl 26 rfl _ zv_Gram _ rfl hM ?_; clear hM; intro gb W hM; first | (simp only [List.nil_append] at hM) | (simp only [List.cons_append, List.nil_append] at hM))
    | (refine at_load_ (T := 26) ?_; first | (refine wpList_loadg_mem (by go_simp) 26 _ rfl 0 _ _ _ hM rfl rfl _ Try.underlying26 rfl sz_Gram ?_) | (refine wpList_loadg_mem (by go_simp) 26 _ rfl 1 _ _ _ hM rfl rfl _ Try.underlying26 rfl sz_Gram ?_) | (refine wpList_loadg_mem (by go_simp) 26 _ rfl 2 _ _ _ hM rfl rfl _ Try.underlying26 rfl sz_Gram ?_) | (refine wpList_loadg_mem (by go_simp) 26 _ rfl 3 _ _ _ hM rfl rfl _ Try.underlying26 rfl sz_Gram ?_))
    | (refine at_store_ (T := 26) ?_; first | (refine wpList_store_mem rfl 26 _ _ rfl 0 _ _ _ _ hM rfl rfl rfl rfl sz_Gram rfl ?_; clear hM; intro W hM; simp only [List.set_cons_zero] at hM) | (refine wpList_store_mem rfl 26 _ _ rfl 1 _ _ _ _ hM rfl rfl rfl rfl sz_Gram rfl ?_; clear hM; intro W hM; simp only [List.set_cons_succ, List.set_cons_zero] at hM) | (refine wpList_store_mem rfl 26 _ _ rfl 2 _ _ _ _ hM rfl rfl rfl rfl sz_Gram rfl ?_; clear hM; intro W hM; simp only [List.set_cons_succ, List.set_cons_zero] at hM) | (refine wpList_store_mem rfl 26 _ _ rfl 3 _ _ _ _ hM rfl rfl rfl rfl sz_Gram rfl ?_; clear hM; intro W hM; simp only [List.set_cons_succ, List.set_cons_zero] at hM)))
  go_ret
  exact ⟨rfl, hM.b⟩
theorem w_UdpBack (a0a : Int) (a0b : Int) (a0c : Int) (a0d : Int) (s0e : ByteArray) (s1 : ByteArray) (a2 : Int) (a3 : Int) (w : World) (ha0a : 0 ≤ a0a) (ha0a' : a0a ≤ 4294967295) (ha0b : -9223372036854775808 ≤ a0b) (ha0b' : a0b ≤ 9223372036854775807) (ha0c : 0 ≤ a0c) (ha0c' : a0c ≤ 4294967295) (ha0d : -9223372036854775808 ≤ a0d) (ha0d' : a0d ≤ 9223372036854775807) (hs0e : s0e.size ≤ 9223372036854775807) (hs1 : s1.size ≤ 140737488351232) (ha2 : -9223372036854775808 ≤ a2) (ha2' : a2 ≤ 9223372036854775807) (ha3 : -9223372036854775808 ≤ a3) (ha3' : a3 ≤ 9223372036854775807) :
    Calls Try.prog 3 #[.agg #[.int .u32 a0a, .int .i64 a0b, .int .u32 a0c, .int .i64 a0d, .string s0e], .string s1, .int .i64 a2, .int .i64 a3] w fun e w' => e = .returned (.bool true) ∧ Below w.heap.size w w' := by
  have ok : GramOk ⟨a0a, a0b, a0c, a0d, s0e⟩ := ⟨⟨ha0a, ha0a'⟩, ⟨ha0b, ha0b'⟩, ⟨ha0c, ha0c'⟩, ⟨ha0d, ha0d'⟩, hs0e⟩
  show Calls Try.prog 3 #[.agg (cGram ⟨a0a, a0b, a0c, a0d, s0e⟩).toArray, .string s1, .int .i64 a2, .int .i64 a3] w fun e w' => e = .returned (.bool true) ∧ Below w.heap.size w w'
  generalize (⟨a0a, a0b, a0c, a0d, s0e⟩ : KGram) = p at *
  have hC := fun W => udCheck_any p W ok
  have hR := fun W => udRead_all p.fa p.ta s1 W (by omega) ok.fa ok.ta
  by_cases hc : udChk p = 0
  · have hb := (udChk_ok hc).2.2
    have hz := udS_size p
    have hR2 := fun W => udRead_all p.fa p.ta (udS p) W (by omega) ok.fa ok.ta
    have h3 := ud_back p hc
    rw [h3.1, if_pos rfl, h3.2] at hR2
    obtain ⟨i, hi⟩ : ∃ i : Nat, a2 % ((udS p).size : Int) = (i : Int) := ⟨(a2 % ((udS p).size : Int)).toNat, by have := Int.emod_nonneg a2 (show ((udS p).size : Int) ≠ 0 by omega); omega⟩
    have hil : i < (udS p).size := by have := Int.emod_lt_of_pos a2 (show 0 < ((udS p).size : Int) by omega); omega
    obtain ⟨j, hj⟩ : ∃ j : Nat, a3 % 8 = (j : Int) := ⟨(a3 % 8).toNat, by omega⟩
    have hT := fun W => turned_any (udS p) a2 a3 W i j hil (by omega) (by omega) hi hj ha2 ha2' ha3 ha3'
    have hTl : (turnL (udS p).data.toList i j).length = (udS p).size := by rw [turnL_len]; simp
    have hG := ud_turned p hc i j hil (by omega) ⟨(turnL (udS p).data.toList i j).toArray⟩ (by simp)
    have hR3 := fun W => udRead_all p.fa p.ta ⟨(turnL (udS p).data.toList i j).toArray⟩ W (by show (turnL (udS p).data.toList i j).toArray.size ≤ _; rw [List.size_toArray, hTl]; omega) ok.fa ok.ta
    rw [if_neg hG] at hR3
    by_cases hr : udErr p.fa p.ta s1 = 0
    · have h4 := ud_again p.fa p.ta s1 hr
      have hW2 := fun W => udWrite_ok (rdG p.fa p.ta s1) W (rdG_ok _ _ s1 ok.fa ok.ta (by omega)) h4.1
      rw [hr, if_pos rfl] at hR
      rw [h4.2] at hW2
      exact udBack_or p _ oGram s1 _ _ _ _ _ 0 _ w hG (by omega) hb (fun W => udWrite_ok p W ok hc) hC hR hW2 hR2 hT hR3
    · rw [if_neg hr] at hR
      exact udBack_on p oGram oGram s1 _ _ _ _ _ _ _ w hG (by omega) hb hr (fun W => udWrite_ok p W ok hc) hC hR hR2 hT hR3
  · by_cases hr : udErr p.fa p.ta s1 = 0
    · have h4 := ud_again p.fa p.ta s1 hr
      have hW2 := fun W => udWrite_ok (rdG p.fa p.ta s1) W (rdG_ok _ _ s1 ok.fa ok.ta (by omega)) h4.1
      rw [hr, if_pos rfl] at hR
      rw [h4.2] at hW2
      exact udBack_nr p _ p s1 s1 s1 a2 a3 _ 0 0 w hc (fun W => udWrite_no p W ok hc) hC hR hW2
    · rw [if_neg hr] at hR
      exact udBack_nn p oGram p s1 s1 s1 a2 a3 _ _ 0 w hc hr (fun W => udWrite_no p W ok hc) hC hR
end Go.Proofs.Ytpjcbjacdkobmaa
