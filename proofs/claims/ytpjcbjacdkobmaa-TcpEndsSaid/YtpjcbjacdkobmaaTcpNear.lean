/- TcpEnds, where the segment is read. -/
import Derived.Test.YtpjcbjacdkobmaaTcpFar
namespace Go.Proofs.Ytpjcbjacdkobmaa
open Go.RowKit
set_option linter.unusedVariables false

set_option maxRecDepth 100000 in
set_option maxHeartbeats 4000000 in
theorem tcEnds_near (p q : KSeg) (s d E : Int) (t : ByteArray) (w : World) (ok : SegOk p) (hs : 0 ≤ s ∧ s ≤ 4294967295) (hd : 0 ≤ d ∧ d ≤ 4294967295) (hh : (halves s d % 65535 != halves p.fa p.ta % 65535) = false) (hE : E = 0) (q1 : q.b = p.b) (q2 : q.fa = s) (q3 : q.ta = d)
    (hW : ∀ W, Calls Try.prog 20 #[.agg (cSeg p).toArray] W fun e w' => e = .returned (.tuple #[.string t, .int .i64 0]) ∧ Below W.heap.size W w')
    (hR2 : ∀ W, Calls Try.prog 21 #[.int .u32 s, .int .u32 d, .string t] W fun e w' => e = .returned (.tuple #[.agg (cSeg q).toArray, .int .i64 E]) ∧ Below W.heap.size W w') :
    Calls Try.prog 10 #[.agg (cSeg p).toArray, .int .u32 s, .int .u32 d] w fun e w' => e = .returned (.bool true) ∧ Below w.heap.size w w' := by
  subst hE
  obtain ⟨qfa, qfp, qta, qtp, qseq, qack, qsyn, qhas, qfin, qrst, qwin, qmss, qb⟩ := q
  simp only at q1 q2 q3
  replace q2 := q2.symm
  replace q3 := q3.symm
  subst q1 q2 q3
  have HWR := Lib.hid hW
  have HRD := Lib.hid (fun W => tcRead_short 0 0 ⟨#[]⟩ W (by show (0 : Nat) < 20; omega))
  have HR2 := Lib.hid hR2
  have A1 := Lib.hid (fun W => all_any s d W hs hd)
  have A2 := Lib.hid (fun W => all_any p.fa p.ta W ok.fa ok.ta)
  have hM := Mem.nil w
  clear hW hR2
  go_enter Try.func10, Try.ntmps10
  go_upto_region 9 with         (first
          | (go_at_call 20; go_must (refine (HWR.out _).mono ?_; rintro e W ⟨rfl, hb⟩; replace hM := hM.kept hb; clear hb))
          | (go_at_call 21; first | (with_reducible refine (HRD.out _).mono ?_; rintro e W ⟨rfl, hb⟩; replace hM := hM.kept hb; clear hb) | (with_reducible refine (HR2.out _).mono ?_; rintro e W ⟨rfl, hb⟩; replace hM := hM.kept hb; clear hb))
          | (refine at_load_ (T := 22) ?_; first | (refine wpList_load1_mem (by go_simp) 22 _ rfl _ Try.underlying22 rfl 0 _ _ _ _ _ hM rfl rfl rfl ?_) | (refine wpList_load1_mem (by go_simp) 22 _ rfl _ Try.underlying22 rfl 1 _ _ _ _ _ hM rfl rfl rfl ?_) | (refine wpList_load1_mem (by go_simp) 22 _ rfl _ Try.underlying22 rfl 2 _ _ _ _ _ hM rfl rfl rfl ?_))
          | (refine at_load_ (T := 3) ?_; first | (refine wpList_load1_mem (by go_simp) 3 _ rfl _ Try.underlying3 rfl 0 _ _ _ _ _ hM rfl rfl rfl ?_) | (refine wpList_load1_mem (by go_simp) 3 _ rfl _ Try.underlying3 rfl 1 _ _ _ _ _ hM rfl rfl rfl ?_) | (refine wpList_load1_mem (by go_simp) 3 _ rfl _ Try.underlying3 rfl 2 _ _ _ _ _ hM rfl rfl rfl ?_))
          | (refine at_load_ (T := 4) ?_; first | (refine wpList_load1_mem (by go_simp) 4 _ rfl _ Try.underlying4 rfl 0 _ _ _ _ _ hM rfl rfl rfl ?_) | (refine wpList_load1_mem (by go_simp) 4 _ rfl _ Try.underlying4 rfl 1 _ _ _ _ _ hM rfl rfl rfl ?_) | (refine wpList_load1_mem (by go_simp) 4 _ rfl _ Try.underlying4 rfl 2 _ _ _ _ _ hM rfl rfl rfl ?_))
          | (refine at_load_ (T := 9) ?_; first | (refine wpList_load1_mem (by go_simp) 9 _ rfl _ Try.underlying9 rfl 0 _ _ _ _ _ hM rfl rfl rfl ?_) | (refine wpList_load1_mem (by go_simp) 9 _ rfl _ Try.underlying9 rfl 1 _ _ _ _ _ hM rfl rfl rfl ?_) | (refine wpList_load1_mem (by go_simp) 9 _ rfl _ Try.underlying9 rfl 2 _ _ _ _ _ hM rfl rfl rfl ?_))
          | (refine at_box_ ?_; refine wpList_box_mem rfl _ _ rfl _ rfl hM ?_; clear hM; intro gb W hM; first | (simp only [List.nil_append] at hM) | (simp only [List.cons_append, List.nil_append] at hM))
          | (refine at_alloc_ (T := 47) ?_; refine wpList_alloc_mem rfl 47 rfl _ zv_Seg _ rfl hM ?_; clear hM; intro gb W hM; first | (simp only [List.nil_append] at hM) | (simp only [List.cons_append, List.nil_append] at hM))
          | (refine at_load_ (T := 47) ?_; first | (refine wpList_loadg_mem (by go_simp) 47 _ rfl 0 _ _ _ hM rfl rfl _ Try.underlying47 rfl sz_Seg ?_) | (refine wpList_loadg_mem (by go_simp) 47 _ rfl 1 _ _ _ hM rfl rfl _ Try.underlying47 rfl sz_Seg ?_) | (refine wpList_loadg_mem (by go_simp) 47 _ rfl 2 _ _ _ hM rfl rfl _ Try.underlying47 rfl sz_Seg ?_))
          | (refine at_store_ (T := 47) ?_; first | (refine wpList_store_mem rfl 47 _ _ rfl 0 _ _ _ _ hM rfl rfl rfl rfl sz_Seg rfl ?_; clear hM; intro W hM; simp only [List.set_cons_zero] at hM) | (refine wpList_store_mem rfl 47 _ _ rfl 1 _ _ _ _ hM rfl rfl rfl rfl sz_Seg rfl ?_; clear hM; intro W hM; simp only [List.set_cons_succ, List.set_cons_zero] at hM) | (refine wpList_store_mem rfl 47 _ _ rfl 2 _ _ _ _ hM rfl rfl rfl rfl sz_Seg rfl ?_; clear hM; intro W hM; simp only [List.set_cons_succ, List.set_cons_zero] at hM)))
  have hc := hM.cells 0 rfl
  have hlt0 := hM.lt 0 rfl
  simp only [cSeg] at hc
  skip
  refine wp_region_later (by kernel_rfl) (by kernel_rfl) (fun hlc => ?_)
  repeat (go_big_quiet_step ((go_at_call 23; first | (with_reducible exact later_same (A1.out _)) | (with_reducible exact later_same (A2.out _)))))
  refine wpQuiet_nil ?_
  intro wq hbq
  clear hlc hc
  replace hM := hM.kept hbq
  clear hbq
  go_wp2_with (first
    | (refine at_load_ (T := 22) ?_; first | (refine wpList_load1_mem (by go_simp) 22 _ rfl _ Try.underlying22 rfl 0 _ _ _ _ _ hM rfl rfl rfl ?_) | (refine wpList_load1_mem (by go_simp) 22 _ rfl _ Try.underlying22 rfl 1 _ _ _ _ _ hM rfl rfl rfl ?_) | (refine wpList_load1_mem (by go_simp) 22 _ rfl _ Try.underlying22 rfl 2 _ _ _ _ _ hM rfl rfl rfl ?_))
    | (refine at_load_ (T := 3) ?_; first | (refine wpList_load1_mem (by go_simp) 3 _ rfl _ Try.underlying3 rfl 0 _ _ _ _ _ hM rfl rfl rfl ?_) | (refine wpList_load1_mem (by go_simp) 3 _ rfl _ Try.underlying3 rfl 1 _ _ _ _ _ hM rfl rfl rfl ?_) | (refine wpList_load1_mem (by go_simp) 3 _ rfl _ Try.underlying3 rfl 2 _ _ _ _ _ hM rfl rfl rfl ?_))
    | (refine at_load_ (T := 4) ?_; first | (refine wpList_load1_mem (by go_simp) 4 _ rfl _ Try.underlying4 rfl 0 _ _ _ _ _ hM rfl rfl rfl ?_) | (refine wpList_load1_mem (by go_simp) 4 _ rfl _ Try.underlying4 rfl 1 _ _ _ _ _ hM rfl rfl rfl ?_) | (refine wpList_load1_mem (by go_simp) 4 _ rfl _ Try.underlying4 rfl 2 _ _ _ _ _ hM rfl rfl rfl ?_))
    | (refine at_load_ (T := 9) ?_; first | (refine wpList_load1_mem (by go_simp) 9 _ rfl _ Try.underlying9 rfl 0 _ _ _ _ _ hM rfl rfl rfl ?_) | (refine wpList_load1_mem (by go_simp) 9 _ rfl _ Try.underlying9 rfl 1 _ _ _ _ _ hM rfl rfl rfl ?_) | (refine wpList_load1_mem (by go_simp) 9 _ rfl _ Try.underlying9 rfl 2 _ _ _ _ _ hM rfl rfl rfl ?_))
    | (refine at_box_ ?_; refine wpList_box_mem rfl _ _ rfl _ rfl hM ?_; clear hM; intro gb W hM; first | (simp only [List.nil_append] at hM) | (simp only [List.cons_append, List.nil_append] at hM))
    | (refine at_alloc_ (T := 47) ?_; refine wpList_alloc_mem rfl 47 rfl _ zv_Seg _ rfl hM ?_; clear hM; intro gb W hM; first | (simp only [List.nil_append] at hM) | (simp only [List.cons_append, List.nil_append] at hM))
    | (refine at_load_ (T := 47) ?_; first | (refine wpList_loadg_mem (by go_simp) 47 _ rfl 0 _ _ _ hM rfl rfl _ Try.underlying47 rfl sz_Seg ?_) | (refine wpList_loadg_mem (by go_simp) 47 _ rfl 1 _ _ _ hM rfl rfl _ Try.underlying47 rfl sz_Seg ?_) | (refine wpList_loadg_mem (by go_simp) 47 _ rfl 2 _ _ _ hM rfl rfl _ Try.underlying47 rfl sz_Seg ?_))
    | (refine at_store_ (T := 47) ?_; first | (refine wpList_store_mem rfl 47 _ _ rfl 0 _ _ _ _ hM rfl rfl rfl rfl sz_Seg rfl ?_; clear hM; intro W hM; simp only [List.set_cons_zero] at hM) | (refine wpList_store_mem rfl 47 _ _ rfl 1 _ _ _ _ hM rfl rfl rfl rfl sz_Seg rfl ?_; clear hM; intro W hM; simp only [List.set_cons_succ, List.set_cons_zero] at hM) | (refine wpList_store_mem rfl 47 _ _ rfl 2 _ _ _ _ hM rfl rfl rfl rfl sz_Seg rfl ?_; clear hM; intro W hM; simp only [List.set_cons_succ, List.set_cons_zero] at hM)))
  go_ret
  exact ⟨rfl, hM.b⟩
end Go.Proofs.Ytpjcbjacdkobmaa
