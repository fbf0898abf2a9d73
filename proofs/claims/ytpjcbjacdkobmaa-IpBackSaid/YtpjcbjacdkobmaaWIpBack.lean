/- The walk of IpBack: it returns true. -/
import Derived.Test.YtpjcbjacdkobmaaWIpShort
namespace Go.Proofs.Ytpjcbjacdkobmaa
open Go.RowKit
set_option linter.unusedVariables false

set_option maxRecDepth 100000 in
set_option maxHeartbeats 4000000 in
theorem ipBack_nn (p q : Pk) (s t : ByteArray) (E F : Int) (w : World) (hE : E ≠ 0) (hF : F ≠ 0)
    (hW : ∀ W, Calls Try.prog 17 #[.agg (pkC p).toArray] W fun e w' => e = .returned (.tuple #[.string ⟨#[]⟩, .int .i64 E]) ∧ Below W.heap.size W w')
    (hC : ∀ W, Calls Try.prog 19 #[.agg (pkC p).toArray] W fun e w' => e = .returned (.int .i64 E) ∧ Below W.heap.size W w')
    (hR : ∀ W, Calls Try.prog 18 #[.string s] W fun e w' => e = .returned (.tuple #[.agg (pkC zeroPk).toArray, .int .i64 F]) ∧ Below W.heap.size W w') :
    Calls Try.prog 5 #[.agg (pkC p).toArray, .string s] w fun e w' => e = .returned (.bool true) ∧ Below w.heap.size w w' := by
  have hne : ((E : Int) != 0) = true := by simpa using hE
  have hnf : ((F : Int) == 0) = false := by simpa using hF
  have HWR := Lib.hid hW
  have HCR := Lib.hid hC
  have HRR := Lib.hid hR
  have hM := Mem.nil w
  clear hW hC hR
  go_enter Try.func5, Try.ntmps5
  go_upto_region 7 with         (first
          | (go_at_call 17; go_must (refine (HWR.out _).mono ?_; rintro e W ⟨rfl, hb⟩; replace hM := hM.kept hb; clear hb))
          | (go_at_call 18; go_must (refine (HRR.out _).mono ?_; rintro e W ⟨rfl, hb⟩; replace hM := hM.kept hb; clear hb))
          | (go_at_call 19; go_must (refine (HCR.out _).mono ?_; rintro e W ⟨rfl, hb⟩; replace hM := hM.kept hb; clear hb))
          | (refine wpList_box_mem rfl _ _ rfl _ rfl hM ?_; clear hM; intro g W hM; first | (simp only [List.nil_append] at hM) | (simp only [List.cons_append, List.nil_append] at hM))
          | (refine wpList_alloc_mem rfl 38 rfl _ zv_Packet _ rfl hM ?_; clear hM; intro g W hM; first | (simp only [List.nil_append] at hM) | (simp only [List.cons_append, List.nil_append] at hM))
          | (refine wpList_load_mem rfl 38 _ rfl 0 _ _ _ hM rfl rfl _ Try.underlying38 rfl sz_Packet ?_)
          | (refine wpList_loadg_mem (by go_simp) 38 _ rfl 0 _ _ _ hM rfl rfl _ Try.underlying38 rfl sz_Packet ?_)
          | (refine wpList_store_mem rfl 38 _ _ rfl 0 _ _ _ _ hM rfl rfl rfl rfl sz_Packet rfl ?_; clear hM; intro W hM; simp only [List.set_cons_zero] at hM)
          | (refine wpList_load_mem rfl 38 _ rfl 1 _ _ _ hM rfl rfl _ Try.underlying38 rfl sz_Packet ?_)
          | (refine wpList_loadg_mem (by go_simp) 38 _ rfl 1 _ _ _ hM rfl rfl _ Try.underlying38 rfl sz_Packet ?_)
          | (refine wpList_store_mem rfl 38 _ _ rfl 1 _ _ _ _ hM rfl rfl rfl rfl sz_Packet rfl ?_; clear hM; intro W hM; simp only [List.set_cons_succ, List.set_cons_zero] at hM)
          | (refine wpList_load_mem rfl 38 _ rfl 2 _ _ _ hM rfl rfl _ Try.underlying38 rfl sz_Packet ?_)
          | (refine wpList_loadg_mem (by go_simp) 38 _ rfl 2 _ _ _ hM rfl rfl _ Try.underlying38 rfl sz_Packet ?_)
          | (refine wpList_store_mem rfl 38 _ _ rfl 2 _ _ _ _ hM rfl rfl rfl rfl sz_Packet rfl ?_; clear hM; intro W hM; simp only [List.set_cons_succ, List.set_cons_zero] at hM)
          | (refine wpList_load_mem rfl 38 _ rfl 3 _ _ _ hM rfl rfl _ Try.underlying38 rfl sz_Packet ?_)
          | (refine wpList_loadg_mem (by go_simp) 38 _ rfl 3 _ _ _ hM rfl rfl _ Try.underlying38 rfl sz_Packet ?_)
          | (refine wpList_store_mem rfl 38 _ _ rfl 3 _ _ _ _ hM rfl rfl rfl rfl sz_Packet rfl ?_; clear hM; intro W hM; simp only [List.set_cons_succ, List.set_cons_zero] at hM))
  have hM2 := hM
  simp only [pkC, zeroPk] at hM
  go_upto_region 9 with         (first
          | (go_at_call 17; go_must (refine (HWR.out _).mono ?_; rintro e W ⟨rfl, hb⟩; replace hM := hM.kept hb; clear hb))
          | (go_at_call 18; go_must (refine (HRR.out _).mono ?_; rintro e W ⟨rfl, hb⟩; replace hM := hM.kept hb; clear hb))
          | (go_at_call 19; go_must (refine (HCR.out _).mono ?_; rintro e W ⟨rfl, hb⟩; replace hM := hM.kept hb; clear hb))
          | (refine wpList_box_mem rfl _ _ rfl _ rfl hM ?_; clear hM; intro g W hM; first | (simp only [List.nil_append] at hM) | (simp only [List.cons_append, List.nil_append] at hM))
          | (refine wpList_alloc_mem rfl 38 rfl _ zv_Packet _ rfl hM ?_; clear hM; intro g W hM; first | (simp only [List.nil_append] at hM) | (simp only [List.cons_append, List.nil_append] at hM))
          | (refine wpList_load_mem rfl 38 _ rfl 0 _ _ _ hM rfl rfl _ Try.underlying38 rfl sz_Packet ?_)
          | (refine wpList_loadg_mem (by go_simp) 38 _ rfl 0 _ _ _ hM rfl rfl _ Try.underlying38 rfl sz_Packet ?_)
          | (refine wpList_store_mem rfl 38 _ _ rfl 0 _ _ _ _ hM rfl rfl rfl rfl sz_Packet rfl ?_; clear hM; intro W hM; simp only [List.set_cons_zero] at hM)
          | (refine wpList_load_mem rfl 38 _ rfl 1 _ _ _ hM rfl rfl _ Try.underlying38 rfl sz_Packet ?_)
          | (refine wpList_loadg_mem (by go_simp) 38 _ rfl 1 _ _ _ hM rfl rfl _ Try.underlying38 rfl sz_Packet ?_)
          | (refine wpList_store_mem rfl 38 _ _ rfl 1 _ _ _ _ hM rfl rfl rfl rfl sz_Packet rfl ?_; clear hM; intro W hM; simp only [List.set_cons_succ, List.set_cons_zero] at hM)
          | (refine wpList_load_mem rfl 38 _ rfl 2 _ _ _ hM rfl rfl _ Try.underlying38 rfl sz_Packet ?_)
          | (refine wpList_loadg_mem (by go_simp) 38 _ rfl 2 _ _ _ hM rfl rfl _ Try.underlying38 rfl sz_Packet ?_)
          | (refine wpList_store_mem rfl 38 _ _ rfl 2 _ _ _ _ hM rfl rfl rfl rfl sz_Packet rfl ?_; clear hM; intro W hM; simp only [List.set_cons_succ, List.set_cons_zero] at hM)
          | (refine wpList_load_mem rfl 38 _ rfl 3 _ _ _ hM rfl rfl _ Try.underlying38 rfl sz_Packet ?_)
          | (refine wpList_loadg_mem (by go_simp) 38 _ rfl 3 _ _ _ hM rfl rfl _ Try.underlying38 rfl sz_Packet ?_)
          | (refine wpList_store_mem rfl 38 _ _ rfl 3 _ _ _ _ hM rfl rfl rfl rfl sz_Packet rfl ?_; clear hM; intro W hM; simp only [List.set_cons_succ, List.set_cons_zero] at hM))
  clear hM
  have hM := hM2
  clear hM2
  go_wp2_with (first
    | (go_at_call 17; go_must (refine (HWR.out _).mono ?_; rintro e W ⟨rfl, hb⟩; replace hM := hM.kept hb; clear hb))
    | (go_at_call 18; go_must (refine (HRR.out _).mono ?_; rintro e W ⟨rfl, hb⟩; replace hM := hM.kept hb; clear hb))
    | (go_at_call 19; go_must (refine (HCR.out _).mono ?_; rintro e W ⟨rfl, hb⟩; replace hM := hM.kept hb; clear hb))
    | (refine wpList_box_mem rfl _ _ rfl _ rfl hM ?_; clear hM; intro g W hM; first | (simp only [List.nil_append] at hM) | (simp only [List.cons_append, List.nil_append] at hM))
    | (refine wpList_alloc_mem rfl 38 rfl _ zv_Packet _ rfl hM ?_; clear hM; intro g W hM; first | (simp only [List.nil_append] at hM) | (simp only [List.cons_append, List.nil_append] at hM))
    | (refine wpList_load_mem rfl 38 _ rfl 0 _ _ _ hM rfl rfl _ Try.underlying38 rfl sz_Packet ?_)
    | (refine wpList_loadg_mem (by go_simp) 38 _ rfl 0 _ _ _ hM rfl rfl _ Try.underlying38 rfl sz_Packet ?_)
    | (refine wpList_store_mem rfl 38 _ _ rfl 0 _ _ _ _ hM rfl rfl rfl rfl sz_Packet rfl ?_; clear hM; intro W hM; simp only [List.set_cons_zero] at hM)
    | (refine wpList_load_mem rfl 38 _ rfl 1 _ _ _ hM rfl rfl _ Try.underlying38 rfl sz_Packet ?_)
    | (refine wpList_loadg_mem (by go_simp) 38 _ rfl 1 _ _ _ hM rfl rfl _ Try.underlying38 rfl sz_Packet ?_)
    | (refine wpList_store_mem rfl 38 _ _ rfl 1 _ _ _ _ hM rfl rfl rfl rfl sz_Packet rfl ?_; clear hM; intro W hM; simp only [List.set_cons_succ, List.set_cons_zero] at hM)
    | (refine wpList_load_mem rfl 38 _ rfl 2 _ _ _ hM rfl rfl _ Try.underlying38 rfl sz_Packet ?_)
    | (refine wpList_loadg_mem (by go_simp) 38 _ rfl 2 _ _ _ hM rfl rfl _ Try.underlying38 rfl sz_Packet ?_)
    | (refine wpList_store_mem rfl 38 _ _ rfl 2 _ _ _ _ hM rfl rfl rfl rfl sz_Packet rfl ?_; clear hM; intro W hM; simp only [List.set_cons_succ, List.set_cons_zero] at hM)
    | (refine wpList_load_mem rfl 38 _ rfl 3 _ _ _ hM rfl rfl _ Try.underlying38 rfl sz_Packet ?_)
    | (refine wpList_loadg_mem (by go_simp) 38 _ rfl 3 _ _ _ hM rfl rfl _ Try.underlying38 rfl sz_Packet ?_)
    | (refine wpList_store_mem rfl 38 _ _ rfl 3 _ _ _ _ hM rfl rfl rfl rfl sz_Packet rfl ?_; clear hM; intro W hM; simp only [List.set_cons_succ, List.set_cons_zero] at hM))
  go_ret
  exact ⟨rfl, hM.b⟩
set_option maxRecDepth 100000 in
set_option maxHeartbeats 4000000 in
theorem ipBack_nr (p q : Pk) (s t : ByteArray) (E F : Int) (w : World) (hE : E ≠ 0)
    (hW : ∀ W, Calls Try.prog 17 #[.agg (pkC p).toArray] W fun e w' => e = .returned (.tuple #[.string ⟨#[]⟩, .int .i64 E]) ∧ Below W.heap.size W w')
    (hC : ∀ W, Calls Try.prog 19 #[.agg (pkC p).toArray] W fun e w' => e = .returned (.int .i64 E) ∧ Below W.heap.size W w')
    (hR : ∀ W, Calls Try.prog 18 #[.string s] W fun e w' => e = .returned (.tuple #[.agg (pkC q).toArray, .int .i64 0]) ∧ Below W.heap.size W w')
    (hW2 : ∀ W, Calls Try.prog 17 #[.agg (pkC q).toArray] W fun e w' => e = .returned (.tuple #[.string s, .int .i64 0]) ∧ Below W.heap.size W w') :
    Calls Try.prog 5 #[.agg (pkC p).toArray, .string s] w fun e w' => e = .returned (.bool true) ∧ Below w.heap.size w w' := by
  have hne : ((E : Int) != 0) = true := by simpa using hE
  have HWR := Lib.hid hW
  have HCR := Lib.hid hC
  have HRR := Lib.hid hR
  have HW2 := Lib.hid hW2
  have hM := Mem.nil w
  clear hW hC hR hW2
  go_enter Try.func5, Try.ntmps5
  go_wp2_with (first
    | (go_at_call 17; first | (with_reducible refine (HWR.out _).mono ?_; rintro e W ⟨rfl, hb⟩; replace hM := hM.kept hb; clear hb) | (with_reducible refine (HW2.out _).mono ?_; rintro e W ⟨rfl, hb⟩; replace hM := hM.kept hb; clear hb))
    | (go_at_call 18; go_must (refine (HRR.out _).mono ?_; rintro e W ⟨rfl, hb⟩; replace hM := hM.kept hb; clear hb))
    | (go_at_call 19; go_must (refine (HCR.out _).mono ?_; rintro e W ⟨rfl, hb⟩; replace hM := hM.kept hb; clear hb))
    | (refine wpList_box_mem rfl _ _ rfl _ rfl hM ?_; clear hM; intro g W hM; first | (simp only [List.nil_append] at hM) | (simp only [List.cons_append, List.nil_append] at hM))
    | (refine wpList_alloc_mem rfl 38 rfl _ zv_Packet _ rfl hM ?_; clear hM; intro g W hM; first | (simp only [List.nil_append] at hM) | (simp only [List.cons_append, List.nil_append] at hM))
    | (refine wpList_load_mem rfl 38 _ rfl 0 _ _ _ hM rfl rfl _ Try.underlying38 rfl sz_Packet ?_)
    | (refine wpList_loadg_mem (by go_simp) 38 _ rfl 0 _ _ _ hM rfl rfl _ Try.underlying38 rfl sz_Packet ?_)
    | (refine wpList_store_mem rfl 38 _ _ rfl 0 _ _ _ _ hM rfl rfl rfl rfl sz_Packet rfl ?_; clear hM; intro W hM; simp only [List.set_cons_zero] at hM)
    | (refine wpList_load_mem rfl 38 _ rfl 1 _ _ _ hM rfl rfl _ Try.underlying38 rfl sz_Packet ?_)
    | (refine wpList_loadg_mem (by go_simp) 38 _ rfl 1 _ _ _ hM rfl rfl _ Try.underlying38 rfl sz_Packet ?_)
    | (refine wpList_store_mem rfl 38 _ _ rfl 1 _ _ _ _ hM rfl rfl rfl rfl sz_Packet rfl ?_; clear hM; intro W hM; simp only [List.set_cons_succ, List.set_cons_zero] at hM)
    | (refine wpList_load_mem rfl 38 _ rfl 2 _ _ _ hM rfl rfl _ Try.underlying38 rfl sz_Packet ?_)
    | (refine wpList_loadg_mem (by go_simp) 38 _ rfl 2 _ _ _ hM rfl rfl _ Try.underlying38 rfl sz_Packet ?_)
    | (refine wpList_store_mem rfl 38 _ _ rfl 2 _ _ _ _ hM rfl rfl rfl rfl sz_Packet rfl ?_; clear hM; intro W hM; simp only [List.set_cons_succ, List.set_cons_zero] at hM)
    | (refine wpList_load_mem rfl 38 _ rfl 3 _ _ _ hM rfl rfl _ Try.underlying38 rfl sz_Packet ?_)
    | (refine wpList_loadg_mem (by go_simp) 38 _ rfl 3 _ _ _ hM rfl rfl _ Try.underlying38 rfl sz_Packet ?_)
    | (refine wpList_store_mem rfl 38 _ _ rfl 3 _ _ _ _ hM rfl rfl rfl rfl sz_Packet rfl ?_; clear hM; intro W hM; simp only [List.set_cons_succ, List.set_cons_zero] at hM))
  go_ret
  exact ⟨rfl, hM.b⟩
set_option maxRecDepth 100000 in
set_option maxHeartbeats 4000000 in
theorem ipBack_on (p q : Pk) (s t : ByteArray) (E F : Int) (w : World) (ht : (t.size : Int) = 20 + (p.b.size : Int)) (ht2 : p.b.size ≤ 1400) (hF : F ≠ 0)
    (hW : ∀ W, Calls Try.prog 17 #[.agg (pkC p).toArray] W fun e w' => e = .returned (.tuple #[.string t, .int .i64 0]) ∧ Below W.heap.size W w')
    (hC : ∀ W, Calls Try.prog 19 #[.agg (pkC p).toArray] W fun e w' => e = .returned (.int .i64 E) ∧ Below W.heap.size W w')
    (hR : ∀ W, Calls Try.prog 18 #[.string s] W fun e w' => e = .returned (.tuple #[.agg (pkC zeroPk).toArray, .int .i64 F]) ∧ Below W.heap.size W w')
    (hR2 : ∀ W, Calls Try.prog 18 #[.string t] W fun e w' => e = .returned (.tuple #[.agg (pkC p).toArray, .int .i64 0]) ∧ Below W.heap.size W w') :
    Calls Try.prog 5 #[.agg (pkC p).toArray, .string s] w fun e w' => e = .returned (.bool true) ∧ Below w.heap.size w w' := by
  have hnf : ((F : Int) == 0) = false := by simpa using hF
  have HWR := Lib.hid hW
  have HCR := Lib.hid hC
  have HRR := Lib.hid hR
  have HR2 := Lib.hid hR2
  have hM := Mem.nil w
  clear hW hC hR hR2
  go_enter Try.func5, Try.ntmps5
  go_upto_region 7 with         (first
          | (go_at_call 17; go_must (refine (HWR.out _).mono ?_; rintro e W ⟨rfl, hb⟩; replace hM := hM.kept hb; clear hb))
          | (go_at_call 18; first | (with_reducible refine (HRR.out _).mono ?_; rintro e W ⟨rfl, hb⟩; replace hM := hM.kept hb; clear hb) | (with_reducible refine (HR2.out _).mono ?_; rintro e W ⟨rfl, hb⟩; replace hM := hM.kept hb; clear hb))
          | (go_at_call 19; go_must (refine (HCR.out _).mono ?_; rintro e W ⟨rfl, hb⟩; replace hM := hM.kept hb; clear hb))
          | (refine wpList_box_mem rfl _ _ rfl _ rfl hM ?_; clear hM; intro g W hM; first | (simp only [List.nil_append] at hM) | (simp only [List.cons_append, List.nil_append] at hM))
          | (refine wpList_alloc_mem rfl 38 rfl _ zv_Packet _ rfl hM ?_; clear hM; intro g W hM; first | (simp only [List.nil_append] at hM) | (simp only [List.cons_append, List.nil_append] at hM))
          | (refine wpList_load_mem rfl 38 _ rfl 0 _ _ _ hM rfl rfl _ Try.underlying38 rfl sz_Packet ?_)
          | (refine wpList_loadg_mem (by go_simp) 38 _ rfl 0 _ _ _ hM rfl rfl _ Try.underlying38 rfl sz_Packet ?_)
          | (refine wpList_store_mem rfl 38 _ _ rfl 0 _ _ _ _ hM rfl rfl rfl rfl sz_Packet rfl ?_; clear hM; intro W hM; simp only [List.set_cons_zero] at hM)
          | (refine wpList_load_mem rfl 38 _ rfl 1 _ _ _ hM rfl rfl _ Try.underlying38 rfl sz_Packet ?_)
          | (refine wpList_loadg_mem (by go_simp) 38 _ rfl 1 _ _ _ hM rfl rfl _ Try.underlying38 rfl sz_Packet ?_)
          | (refine wpList_store_mem rfl 38 _ _ rfl 1 _ _ _ _ hM rfl rfl rfl rfl sz_Packet rfl ?_; clear hM; intro W hM; simp only [List.set_cons_succ, List.set_cons_zero] at hM)
          | (refine wpList_load_mem rfl 38 _ rfl 2 _ _ _ hM rfl rfl _ Try.underlying38 rfl sz_Packet ?_)
          | (refine wpList_loadg_mem (by go_simp) 38 _ rfl 2 _ _ _ hM rfl rfl _ Try.underlying38 rfl sz_Packet ?_)
          | (refine wpList_store_mem rfl 38 _ _ rfl 2 _ _ _ _ hM rfl rfl rfl rfl sz_Packet rfl ?_; clear hM; intro W hM; simp only [List.set_cons_succ, List.set_cons_zero] at hM)
          | (refine wpList_load_mem rfl 38 _ rfl 3 _ _ _ hM rfl rfl _ Try.underlying38 rfl sz_Packet ?_)
          | (refine wpList_loadg_mem (by go_simp) 38 _ rfl 3 _ _ _ hM rfl rfl _ Try.underlying38 rfl sz_Packet ?_)
          | (refine wpList_store_mem rfl 38 _ _ rfl 3 _ _ _ _ hM rfl rfl rfl rfl sz_Packet rfl ?_; clear hM; intro W hM; simp only [List.set_cons_succ, List.set_cons_zero] at hM))
  have hM2 := hM
  simp only [pkC, zeroPk] at hM
  go_upto_region 9 with         (first
          | (go_at_call 17; go_must (refine (HWR.out _).mono ?_; rintro e W ⟨rfl, hb⟩; replace hM := hM.kept hb; clear hb))
          | (go_at_call 18; first | (with_reducible refine (HRR.out _).mono ?_; rintro e W ⟨rfl, hb⟩; replace hM := hM.kept hb; clear hb) | (with_reducible refine (HR2.out _).mono ?_; rintro e W ⟨rfl, hb⟩; replace hM := hM.kept hb; clear hb))
          | (go_at_call 19; go_must (refine (HCR.out _).mono ?_; rintro e W ⟨rfl, hb⟩; replace hM := hM.kept hb; clear hb))
          | (refine wpList_box_mem rfl _ _ rfl _ rfl hM ?_; clear hM; intro g W hM; first | (simp only [List.nil_append] at hM) | (simp only [List.cons_append, List.nil_append] at hM))
          | (refine wpList_alloc_mem rfl 38 rfl _ zv_Packet _ rfl hM ?_; clear hM; intro g W hM; first | (simp only [List.nil_append] at hM) | (simp only [List.cons_append, List.nil_append] at hM))
          | (refine wpList_load_mem rfl 38 _ rfl 0 _ _ _ hM rfl rfl _ Try.underlying38 rfl sz_Packet ?_)
          | (refine wpList_loadg_mem (by go_simp) 38 _ rfl 0 _ _ _ hM rfl rfl _ Try.underlying38 rfl sz_Packet ?_)
          | (refine wpList_store_mem rfl 38 _ _ rfl 0 _ _ _ _ hM rfl rfl rfl rfl sz_Packet rfl ?_; clear hM; intro W hM; simp only [List.set_cons_zero] at hM)
          | (refine wpList_load_mem rfl 38 _ rfl 1 _ _ _ hM rfl rfl _ Try.underlying38 rfl sz_Packet ?_)
          | (refine wpList_loadg_mem (by go_simp) 38 _ rfl 1 _ _ _ hM rfl rfl _ Try.underlying38 rfl sz_Packet ?_)
          | (refine wpList_store_mem rfl 38 _ _ rfl 1 _ _ _ _ hM rfl rfl rfl rfl sz_Packet rfl ?_; clear hM; intro W hM; simp only [List.set_cons_succ, List.set_cons_zero] at hM)
          | (refine wpList_load_mem rfl 38 _ rfl 2 _ _ _ hM rfl rfl _ Try.underlying38 rfl sz_Packet ?_)
          | (refine wpList_loadg_mem (by go_simp) 38 _ rfl 2 _ _ _ hM rfl rfl _ Try.underlying38 rfl sz_Packet ?_)
          | (refine wpList_store_mem rfl 38 _ _ rfl 2 _ _ _ _ hM rfl rfl rfl rfl sz_Packet rfl ?_; clear hM; intro W hM; simp only [List.set_cons_succ, List.set_cons_zero] at hM)
          | (refine wpList_load_mem rfl 38 _ rfl 3 _ _ _ hM rfl rfl _ Try.underlying38 rfl sz_Packet ?_)
          | (refine wpList_loadg_mem (by go_simp) 38 _ rfl 3 _ _ _ hM rfl rfl _ Try.underlying38 rfl sz_Packet ?_)
          | (refine wpList_store_mem rfl 38 _ _ rfl 3 _ _ _ _ hM rfl rfl rfl rfl sz_Packet rfl ?_; clear hM; intro W hM; simp only [List.set_cons_succ, List.set_cons_zero] at hM))
  clear hM
  have hM := hM2
  clear hM2
  go_upto_region 12 with         (first
          | (go_at_call 17; go_must (refine (HWR.out _).mono ?_; rintro e W ⟨rfl, hb⟩; replace hM := hM.kept hb; clear hb))
          | (go_at_call 18; first | (with_reducible refine (HRR.out _).mono ?_; rintro e W ⟨rfl, hb⟩; replace hM := hM.kept hb; clear hb) | (with_reducible refine (HR2.out _).mono ?_; rintro e W ⟨rfl, hb⟩; replace hM := hM.kept hb; clear hb))
          | (go_at_call 19; go_must (refine (HCR.out _).mono ?_; rintro e W ⟨rfl, hb⟩; replace hM := hM.kept hb; clear hb))
          | (refine wpList_box_mem rfl _ _ rfl _ rfl hM ?_; clear hM; intro g W hM; first | (simp only [List.nil_append] at hM) | (simp only [List.cons_append, List.nil_append] at hM))
          | (refine wpList_alloc_mem rfl 38 rfl _ zv_Packet _ rfl hM ?_; clear hM; intro g W hM; first | (simp only [List.nil_append] at hM) | (simp only [List.cons_append, List.nil_append] at hM))
          | (refine wpList_load_mem rfl 38 _ rfl 0 _ _ _ hM rfl rfl _ Try.underlying38 rfl sz_Packet ?_)
          | (refine wpList_loadg_mem (by go_simp) 38 _ rfl 0 _ _ _ hM rfl rfl _ Try.underlying38 rfl sz_Packet ?_)
          | (refine wpList_store_mem rfl 38 _ _ rfl 0 _ _ _ _ hM rfl rfl rfl rfl sz_Packet rfl ?_; clear hM; intro W hM; simp only [List.set_cons_zero] at hM)
          | (refine wpList_load_mem rfl 38 _ rfl 1 _ _ _ hM rfl rfl _ Try.underlying38 rfl sz_Packet ?_)
          | (refine wpList_loadg_mem (by go_simp) 38 _ rfl 1 _ _ _ hM rfl rfl _ Try.underlying38 rfl sz_Packet ?_)
          | (refine wpList_store_mem rfl 38 _ _ rfl 1 _ _ _ _ hM rfl rfl rfl rfl sz_Packet rfl ?_; clear hM; intro W hM; simp only [List.set_cons_succ, List.set_cons_zero] at hM)
          | (refine wpList_load_mem rfl 38 _ rfl 2 _ _ _ hM rfl rfl _ Try.underlying38 rfl sz_Packet ?_)
          | (refine wpList_loadg_mem (by go_simp) 38 _ rfl 2 _ _ _ hM rfl rfl _ Try.underlying38 rfl sz_Packet ?_)
          | (refine wpList_store_mem rfl 38 _ _ rfl 2 _ _ _ _ hM rfl rfl rfl rfl sz_Packet rfl ?_; clear hM; intro W hM; simp only [List.set_cons_succ, List.set_cons_zero] at hM)
          | (refine wpList_load_mem rfl 38 _ rfl 3 _ _ _ hM rfl rfl _ Try.underlying38 rfl sz_Packet ?_)
          | (refine wpList_loadg_mem (by go_simp) 38 _ rfl 3 _ _ _ hM rfl rfl _ Try.underlying38 rfl sz_Packet ?_)
          | (refine wpList_store_mem rfl 38 _ _ rfl 3 _ _ _ _ hM rfl rfl rfl rfl sz_Packet rfl ?_; clear hM; intro W hM; simp only [List.set_cons_succ, List.set_cons_zero] at hM))
  simp only [pkC] at hM
  have hc := hM.cells 0 rfl
  go_wp2_with (first
    | (go_at_call 17; go_must (refine (HWR.out _).mono ?_; rintro e W ⟨rfl, hb⟩; replace hM := hM.kept hb; clear hb))
    | (go_at_call 18; first | (with_reducible refine (HRR.out _).mono ?_; rintro e W ⟨rfl, hb⟩; replace hM := hM.kept hb; clear hb) | (with_reducible refine (HR2.out _).mono ?_; rintro e W ⟨rfl, hb⟩; replace hM := hM.kept hb; clear hb))
    | (go_at_call 19; go_must (refine (HCR.out _).mono ?_; rintro e W ⟨rfl, hb⟩; replace hM := hM.kept hb; clear hb))
    | (refine wpList_box_mem rfl _ _ rfl _ rfl hM ?_; clear hM; intro g W hM; first | (simp only [List.nil_append] at hM) | (simp only [List.cons_append, List.nil_append] at hM))
    | (refine wpList_alloc_mem rfl 38 rfl _ zv_Packet _ rfl hM ?_; clear hM; intro g W hM; first | (simp only [List.nil_append] at hM) | (simp only [List.cons_append, List.nil_append] at hM))
    | (refine wpList_load_mem rfl 38 _ rfl 0 _ _ _ hM rfl rfl _ Try.underlying38 rfl sz_Packet ?_)
    | (refine wpList_loadg_mem (by go_simp) 38 _ rfl 0 _ _ _ hM rfl rfl _ Try.underlying38 rfl sz_Packet ?_)
    | (refine wpList_store_mem rfl 38 _ _ rfl 0 _ _ _ _ hM rfl rfl rfl rfl sz_Packet rfl ?_; clear hM; intro W hM; simp only [List.set_cons_zero] at hM)
    | (refine wpList_load_mem rfl 38 _ rfl 1 _ _ _ hM rfl rfl _ Try.underlying38 rfl sz_Packet ?_)
    | (refine wpList_loadg_mem (by go_simp) 38 _ rfl 1 _ _ _ hM rfl rfl _ Try.underlying38 rfl sz_Packet ?_)
    | (refine wpList_store_mem rfl 38 _ _ rfl 1 _ _ _ _ hM rfl rfl rfl rfl sz_Packet rfl ?_; clear hM; intro W hM; simp only [List.set_cons_succ, List.set_cons_zero] at hM)
    | (refine wpList_load_mem rfl 38 _ rfl 2 _ _ _ hM rfl rfl _ Try.underlying38 rfl sz_Packet ?_)
    | (refine wpList_loadg_mem (by go_simp) 38 _ rfl 2 _ _ _ hM rfl rfl _ Try.underlying38 rfl sz_Packet ?_)
    | (refine wpList_store_mem rfl 38 _ _ rfl 2 _ _ _ _ hM rfl rfl rfl rfl sz_Packet rfl ?_; clear hM; intro W hM; simp only [List.set_cons_succ, List.set_cons_zero] at hM)
    | (refine wpList_load_mem rfl 38 _ rfl 3 _ _ _ hM rfl rfl _ Try.underlying38 rfl sz_Packet ?_)
    | (refine wpList_loadg_mem (by go_simp) 38 _ rfl 3 _ _ _ hM rfl rfl _ Try.underlying38 rfl sz_Packet ?_)
    | (refine wpList_store_mem rfl 38 _ _ rfl 3 _ _ _ _ hM rfl rfl rfl rfl sz_Packet rfl ?_; clear hM; intro W hM; simp only [List.set_cons_succ, List.set_cons_zero] at hM))
  go_ret
  exact ⟨rfl, hM.b⟩
set_option maxRecDepth 100000 in
set_option maxHeartbeats 4000000 in
theorem ipBack_or (p q : Pk) (s t : ByteArray) (E F : Int) (w : World) (ht : (t.size : Int) = 20 + (p.b.size : Int)) (ht2 : p.b.size ≤ 1400)
    (hW : ∀ W, Calls Try.prog 17 #[.agg (pkC p).toArray] W fun e w' => e = .returned (.tuple #[.string t, .int .i64 0]) ∧ Below W.heap.size W w')
    (hC : ∀ W, Calls Try.prog 19 #[.agg (pkC p).toArray] W fun e w' => e = .returned (.int .i64 E) ∧ Below W.heap.size W w')
    (hR : ∀ W, Calls Try.prog 18 #[.string s] W fun e w' => e = .returned (.tuple #[.agg (pkC q).toArray, .int .i64 0]) ∧ Below W.heap.size W w')
    (hW2 : ∀ W, Calls Try.prog 17 #[.agg (pkC q).toArray] W fun e w' => e = .returned (.tuple #[.string s, .int .i64 0]) ∧ Below W.heap.size W w')
    (hR2 : ∀ W, Calls Try.prog 18 #[.string t] W fun e w' => e = .returned (.tuple #[.agg (pkC p).toArray, .int .i64 0]) ∧ Below W.heap.size W w') :
    Calls Try.prog 5 #[.agg (pkC p).toArray, .string s] w fun e w' => e = .returned (.bool true) ∧ Below w.heap.size w w' := by
  have HWR := Lib.hid hW
  have HCR := Lib.hid hC
  have HRR := Lib.hid hR
  have HW2 := Lib.hid hW2
  have HR2 := Lib.hid hR2
  have hM := Mem.nil w
  clear hW hC hR hW2 hR2
  go_enter Try.func5, Try.ntmps5
  go_upto_region 12 with         (first
          | (go_at_call 17; first | (with_reducible refine (HWR.out _).mono ?_; rintro e W ⟨rfl, hb⟩; replace hM := hM.kept hb; clear hb) | (with_reducible refine (HW2.out _).mono ?_; rintro e W ⟨rfl, hb⟩; replace hM := hM.kept hb; clear hb))
          | (go_at_call 18; first | (with_reducible refine (HRR.out _).mono ?_; rintro e W ⟨rfl, hb⟩; replace hM := hM.kept hb; clear hb) | (with_reducible refine (HR2.out _).mono ?_; rintro e W ⟨rfl, hb⟩; replace hM := hM.kept hb; clear hb))
          | (go_at_call 19; go_must (refine (HCR.out _).mono ?_; rintro e W ⟨rfl, hb⟩; replace hM := hM.kept hb; clear hb))
          | (refine wpList_box_mem rfl _ _ rfl _ rfl hM ?_; clear hM; intro g W hM; first | (simp only [List.nil_append] at hM) | (simp only [List.cons_append, List.nil_append] at hM))
          | (refine wpList_alloc_mem rfl 38 rfl _ zv_Packet _ rfl hM ?_; clear hM; intro g W hM; first | (simp only [List.nil_append] at hM) | (simp only [List.cons_append, List.nil_append] at hM))
          | (refine wpList_load_mem rfl 38 _ rfl 0 _ _ _ hM rfl rfl _ Try.underlying38 rfl sz_Packet ?_)
          | (refine wpList_loadg_mem (by go_simp) 38 _ rfl 0 _ _ _ hM rfl rfl _ Try.underlying38 rfl sz_Packet ?_)
          | (refine wpList_store_mem rfl 38 _ _ rfl 0 _ _ _ _ hM rfl rfl rfl rfl sz_Packet rfl ?_; clear hM; intro W hM; simp only [List.set_cons_zero] at hM)
          | (refine wpList_load_mem rfl 38 _ rfl 1 _ _ _ hM rfl rfl _ Try.underlying38 rfl sz_Packet ?_)
          | (refine wpList_loadg_mem (by go_simp) 38 _ rfl 1 _ _ _ hM rfl rfl _ Try.underlying38 rfl sz_Packet ?_)
          | (refine wpList_store_mem rfl 38 _ _ rfl 1 _ _ _ _ hM rfl rfl rfl rfl sz_Packet rfl ?_; clear hM; intro W hM; simp only [List.set_cons_succ, List.set_cons_zero] at hM)
          | (refine wpList_load_mem rfl 38 _ rfl 2 _ _ _ hM rfl rfl _ Try.underlying38 rfl sz_Packet ?_)
          | (refine wpList_loadg_mem (by go_simp) 38 _ rfl 2 _ _ _ hM rfl rfl _ Try.underlying38 rfl sz_Packet ?_)
          | (refine wpList_store_mem rfl 38 _ _ rfl 2 _ _ _ _ hM rfl rfl rfl rfl sz_Packet rfl ?_; clear hM; intro W hM; simp only [List.set_cons_succ, List.set_cons_zero] at hM)
          | (refine wpList_load_mem rfl 38 _ rfl 3 _ _ _ hM rfl rfl _ Try.underlying38 rfl sz_Packet ?_)
          | (refine wpList_loadg_mem (by go_simp) 38 _ rfl 3 _ _ _ hM rfl rfl _ Try.underlying38 rfl sz_Packet ?_)
          | (refine wpList_store_mem rfl 38 _ _ rfl 3 _ _ _ _ hM rfl rfl rfl rfl sz_Packet rfl ?_; clear hM; intro W hM; simp only [List.set_cons_succ, List.set_cons_zero] at hM))
  simp only [pkC] at hM
  have hc := hM.cells 0 rfl
  go_wp2_with (first
    | (go_at_call 17; first | (with_reducible refine (HWR.out _).mono ?_; rintro e W ⟨rfl, hb⟩; replace hM := hM.kept hb; clear hb) | (with_reducible refine (HW2.out _).mono ?_; rintro e W ⟨rfl, hb⟩; replace hM := hM.kept hb; clear hb))
    | (go_at_call 18; first | (with_reducible refine (HRR.out _).mono ?_; rintro e W ⟨rfl, hb⟩; replace hM := hM.kept hb; clear hb) | (with_reducible refine (HR2.out _).mono ?_; rintro e W ⟨rfl, hb⟩; replace hM := hM.kept hb; clear hb))
    | (go_at_call 19; go_must (refine (HCR.out _).mono ?_; rintro e W ⟨rfl, hb⟩; replace hM := hM.kept hb; clear hb))
    | (refine wpList_box_mem rfl _ _ rfl _ rfl hM ?_; clear hM; intro g W hM; first | (simp only [List.nil_append] at hM) | (simp only [List.cons_append, List.nil_append] at hM))
    | (refine wpList_alloc_mem rfl 38 rfl _ zv_Packet _ rfl hM ?_; clear hM; intro g W hM; first | (simp only [List.nil_append] at hM) | (simp only [List.cons_append, List.nil_append] at hM))
    | (refine wpList_load_mem rfl 38 _ rfl 0 _ _ _ hM rfl rfl _ Try.underlying38 rfl sz_Packet ?_)
    | (refine wpList_loadg_mem (by go_simp) 38 _ rfl 0 _ _ _ hM rfl rfl _ Try.underlying38 rfl sz_Packet ?_)
    | (refine wpList_store_mem rfl 38 _ _ rfl 0 _ _ _ _ hM rfl rfl rfl rfl sz_Packet rfl ?_; clear hM; intro W hM; simp only [List.set_cons_zero] at hM)
    | (refine wpList_load_mem rfl 38 _ rfl 1 _ _ _ hM rfl rfl _ Try.underlying38 rfl sz_Packet ?_)
    | (refine wpList_loadg_mem (by go_simp) 38 _ rfl 1 _ _ _ hM rfl rfl _ Try.underlying38 rfl sz_Packet ?_)
    | (refine wpList_store_mem rfl 38 _ _ rfl 1 _ _ _ _ hM rfl rfl rfl rfl sz_Packet rfl ?_; clear hM; intro W hM; simp only [List.set_cons_succ, List.set_cons_zero] at hM)
    | (refine wpList_load_mem rfl 38 _ rfl 2 _ _ _ hM rfl rfl _ Try.underlying38 rfl sz_Packet ?_)
    | (refine wpList_loadg_mem (by go_simp) 38 _ rfl 2 _ _ _ hM rfl rfl _ Try.underlying38 rfl sz_Packet ?_)
    | (refine wpList_store_mem rfl 38 _ _ rfl 2 _ _ _ _ hM rfl rfl rfl rfl sz_Packet rfl ?_; clear hM; intro W hM; simp only [List.set_cons_succ, List.set_cons_zero] at hM)
    | (refine wpList_load_mem rfl 38 _ rfl 3 _ _ _ hM rfl rfl _ Try.underlying38 rfl sz_Packet ?_)
    | (refine wpList_loadg_mem (by go_simp) 38 _ rfl 3 _ _ _ hM rfl rfl _ Try.underlying38 rfl sz_Packet ?_)
    | (refine wpList_store_mem rfl 38 _ _ rfl 3 _ _ _ _ hM rfl rfl rfl rfl sz_Packet rfl ?_; clear hM; intro W hM; simp only [List.set_cons_succ, List.set_cons_zero] at hM))
  go_ret
  exact ⟨rfl, hM.b⟩
theorem w_IpBack (a0a : Int) (a0b : Int) (a0c : Int) (a0d : Int) (a0e : Int) (b0f : Bool) (b0g : Bool) (a0i : Int) (s0j : ByteArray) (s1 : ByteArray) (w : World) (ha0a : 0 ≤ a0a) (ha0a' : a0a ≤ 4294967295) (ha0b : 0 ≤ a0b) (ha0b' : a0b ≤ 4294967295) (ha0c : -9223372036854775808 ≤ a0c) (ha0c' : a0c ≤ 9223372036854775807) (ha0d : -9223372036854775808 ≤ a0d) (ha0d' : a0d ≤ 9223372036854775807) (ha0e : -9223372036854775808 ≤ a0e) (ha0e' : a0e ≤ 9223372036854775807) (ha0i : -9223372036854775808 ≤ a0i) (ha0i' : a0i ≤ 9223372036854775807) (hs0j : s0j.size ≤ 9223372036854775807) (hs1 : s1.size ≤ 140737488351232) :
    Calls Try.prog 5 #[.agg #[.int .u32 a0a, .int .u32 a0b, .int .i64 a0c, .int .i64 a0d, .int .i64 a0e, .bool b0f, .bool b0g, .int .i64 a0i, .string s0j], .string s1] w fun e w' => e = .returned (.bool true) ∧ Below w.heap.size w w' := by
  have ok : PkOk ⟨a0a, a0b, a0c, a0d, a0e, b0f, b0g, a0i, s0j⟩ := ⟨⟨ha0a, ha0a'⟩, ⟨ha0b, ha0b'⟩, ⟨ha0c, ha0c'⟩, ⟨ha0d, ha0d'⟩, ⟨ha0e, ha0e'⟩, ⟨ha0i, ha0i'⟩, hs0j⟩
  show Calls Try.prog 5 #[.agg (pkC ⟨a0a, a0b, a0c, a0d, a0e, b0f, b0g, a0i, s0j⟩).toArray, .string s1] w fun e w' => e = .returned (.bool true) ∧ Below w.heap.size w w'
  generalize (⟨a0a, a0b, a0c, a0d, a0e, b0f, b0g, a0i, s0j⟩ : Pk) = p at *
  have hC := fun W => ipCheck_any p W ok
  have hR := fun W => ipRead_all s1 W (by omega)
  by_cases hc : ipChk p = 0
  · have hb := (ipChk_ok hc).2.2.2.2
    have hz := ipS_size p
    have hR2 := fun W => ipRead_all (ipS p) W (by omega)
    have h3 := ip_back p ok hc
    rw [h3.1, if_pos rfl, h3.2] at hR2
    by_cases hr : rdErr s1 = 0
    · have h4 := ip_again s1 hr
      have hW2 := fun W => ipWrite_ok (rdPk s1) W (rdPk_ok s1 (by omega)) h4.1
      rw [hr, if_pos rfl] at hR
      rw [h4.2] at hW2
      exact ipBack_or p _ s1 _ _ 0 w (by omega) hb (fun W => ipWrite_ok p W ok hc) hC hR hW2 hR2
    · rw [if_neg hr] at hR
      exact ipBack_on p p s1 _ _ _ w (by omega) hb hr (fun W => ipWrite_ok p W ok hc) hC hR hR2
  · by_cases hr : rdErr s1 = 0
    · have h4 := ip_again s1 hr
      have hW2 := fun W => ipWrite_ok (rdPk s1) W (rdPk_ok s1 (by omega)) h4.1
      rw [hr, if_pos rfl] at hR
      rw [h4.2] at hW2
      exact ipBack_nr p _ s1 s1 _ 0 w hc (fun W => ipWrite_no p W ok hc) hC hR hW2
    · rw [if_neg hr] at hR
      exact ipBack_nn p p s1 s1 _ _ w hc hr (fun W => ipWrite_no p W ok hc) hC hR
end Go.Proofs.Ytpjcbjacdkobmaa
