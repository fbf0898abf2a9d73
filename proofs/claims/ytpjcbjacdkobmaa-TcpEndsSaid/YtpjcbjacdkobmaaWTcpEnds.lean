/- The walk of TcpEnds: it returns true. -/
import Derived.Test.YtpjcbjacdkobmaaTcpErr
import Derived.Test.YtpjcbjacdkobmaaTcpNear
import Derived.Test.YtpjcbjacdkobmaaTcpL
import Derived.Test.YtpjcbjacdkobmaaWTcpBack
namespace Go.Proofs.Ytpjcbjacdkobmaa
open Go.RowKit
set_option linter.unusedVariables false

set_option maxRecDepth 100000 in
set_option maxHeartbeats 4000000 in
theorem tcEnds_no (p : KSeg) (s d E : Int) (w : World) (hE : E ≠ 0)
    (hW : ∀ W, Calls Try.prog 20 #[.agg (cSeg p).toArray] W fun e w' => e = .returned (.tuple #[.string ⟨#[]⟩, .int .i64 E]) ∧ Below W.heap.size W w') :
    Calls Try.prog 10 #[.agg (cSeg p).toArray, .int .u32 s, .int .u32 d] w fun e w' => e = .returned (.bool true) ∧ Below w.heap.size w w' := by
  have hne : ((E : Int) != 0) = true := by simpa using hE
  have HWR := Lib.hid hW
  have HRD := Lib.hid (fun W => tcRead_short 0 0 ⟨#[]⟩ W (by show (0 : Nat) < 20; omega))
  have hM := Mem.nil w
  clear hW
  go_enter Try.func10, Try.ntmps10
  go_wp2_with (first
    | (go_at_call 20; go_must (refine (HWR.out _).mono ?_; rintro e W ⟨rfl, hb⟩; replace hM := hM.kept hb; clear hb))
    | (go_at_call 21; go_must (refine (HRD.out _).mono ?_; rintro e W ⟨rfl, hb⟩; replace hM := hM.kept hb; clear hb))
    | (refine at_load_ (T := 22) ?_; first | (refine wpList_load1_mem (by go_simp) 22 _ rfl _ Try.underlying22 rfl 0 _ _ _ _ _ hM rfl rfl rfl ?_) | (refine wpList_load1_mem (by go_simp) 22 _ rfl _ Try.underlying22 rfl 1 _ _ _ _ _ hM rfl rfl rfl ?_) | (refine wpList_load1_mem (by go_simp) 22 _ rfl _ Try.underlying22 rfl 2 _ _ _ _ _ hM rfl rfl rfl ?_))
    | (refine at_load_ (T := 3) ?_; first | (refine wpList_load1_mem (by go_simp) 3 _ rfl _ Try.underlying3 rfl 0 _ _ _ _ _ hM rfl rfl rfl ?_) | (refine wpList_load1_mem (by go_simp) 3 _ rfl _ Try.underlying3 rfl 1 _ _ _ _ _ hM rfl rfl rfl ?_) | (refine wpList_load1_mem (by go_simp) 3 _ rfl _ Try.underlying3 rfl 2 _ _ _ _ _ hM rfl rfl rfl ?_))
    | (refine at_load_ (T := 4) ?_; first | (refine wpList_load1_mem (by go_simp) 4 _ rfl _ Try.underlying4 rfl 0 _ _ _ _ _ hM rfl rfl rfl ?_) | (refine wpList_load1_mem (by go_simp) 4 _ rfl _ Try.underlying4 rfl 1 _ _ _ _ _ hM rfl rfl rfl ?_) | (refine wpList_load1_mem (by go_simp) 4 _ rfl _ Try.underlying4 rfl 2 _ _ _ _ _ hM rfl rfl rfl ?_))
    | (refine at_load_ (T := 9) ?_; first | (refine wpList_load1_mem (by go_simp) 9 _ rfl _ Try.underlying9 rfl 0 _ _ _ _ _ hM rfl rfl rfl ?_) | (refine wpList_load1_mem (by go_simp) 9 _ rfl _ Try.underlying9 rfl 1 _ _ _ _ _ hM rfl rfl rfl ?_) | (refine wpList_load1_mem (by go_simp) 9 _ rfl _ Try.underlying9 rfl 2 _ _ _ _ _ hM rfl rfl rfl ?_))
    | (refine at_box_ ?_; refine wpList_box_mem rfl _ _ rfl _ rfl hM ?_; clear hM; intro gb W hM; first | (simp only [List.nil_append] at hM) | (simp only [List.cons_append, List.nil_append] at hM))
    | (refine at_alloc_ (T := 47) ?_; refine wpList_alloc_mem rfl 47 rfl _ zv_Seg _ rfl hM ?_; clear hM; intro gb W hM; first | (simp only [List.nil_append] at hM) | (simp only [List.cons_append, List.nil_append] at hM))
    | (refine at_load_ (T := 47) ?_; first | (refine wpList_loadg_mem (by go_simp) 47 _ rfl 0 _ _ _ hM rfl rfl _ Try.underlying47 rfl sz_Seg ?_) | (refine wpList_loadg_mem (by go_simp) 47 _ rfl 1 _ _ _ hM rfl rfl _ Try.underlying47 rfl sz_Seg ?_) | (refine wpList_loadg_mem (by go_simp) 47 _ rfl 2 _ _ _ hM rfl rfl _ Try.underlying47 rfl sz_Seg ?_))
    | (refine at_store_ (T := 47) ?_; first | (refine wpList_store_mem rfl 47 _ _ rfl 0 _ _ _ _ hM rfl rfl rfl rfl sz_Seg rfl ?_; clear hM; intro W hM; simp only [List.set_cons_zero] at hM) | (refine wpList_store_mem rfl 47 _ _ rfl 1 _ _ _ _ hM rfl rfl rfl rfl sz_Seg rfl ?_; clear hM; intro W hM; simp only [List.set_cons_succ, List.set_cons_zero] at hM) | (refine wpList_store_mem rfl 47 _ _ rfl 2 _ _ _ _ hM rfl rfl rfl rfl sz_Seg rfl ?_; clear hM; intro W hM; simp only [List.set_cons_succ, List.set_cons_zero] at hM)))
  go_ret
  exact ⟨rfl, hM.b⟩
theorem w_TcpEnds (a0a : Int) (a0b : Int) (a0c : Int) (a0d : Int) (a0e : Int) (a0f : Int) (b0g : Bool) (b0i : Bool) (b0j : Bool) (b0k : Bool) (a0m : Int) (a0n : Int) (s0o : ByteArray) (a1 : Int) (a2 : Int) (w : World) (ha0a : 0 ≤ a0a) (ha0a' : a0a ≤ 4294967295) (ha0b : -9223372036854775808 ≤ a0b) (ha0b' : a0b ≤ 9223372036854775807) (ha0c : 0 ≤ a0c) (ha0c' : a0c ≤ 4294967295) (ha0d : -9223372036854775808 ≤ a0d) (ha0d' : a0d ≤ 9223372036854775807) (ha0e : 0 ≤ a0e) (ha0e' : a0e ≤ 4294967295) (ha0f : 0 ≤ a0f) (ha0f' : a0f ≤ 4294967295) (ha0m : -9223372036854775808 ≤ a0m) (ha0m' : a0m ≤ 9223372036854775807) (ha0n : -9223372036854775808 ≤ a0n) (ha0n' : a0n ≤ 9223372036854775807) (hs0o : s0o.size ≤ 9223372036854775807) (ha1 : 0 ≤ a1) (ha1' : a1 ≤ 4294967295) (ha2 : 0 ≤ a2) (ha2' : a2 ≤ 4294967295) :
    Calls Try.prog 10 #[.agg #[.int .u32 a0a, .int .i64 a0b, .int .u32 a0c, .int .i64 a0d, .int .u32 a0e, .int .u32 a0f, .bool b0g, .bool b0i, .bool b0j, .bool b0k, .int .i64 a0m, .int .i64 a0n, .string s0o], .int .u32 a1, .int .u32 a2] w fun e w' => e = .returned (.bool true) ∧ Below w.heap.size w w' := by
  have ok : SegOk ⟨a0a, a0b, a0c, a0d, a0e, a0f, b0g, b0i, b0j, b0k, a0m, a0n, s0o⟩ := ⟨⟨ha0a, ha0a'⟩, ⟨ha0b, ha0b'⟩, ⟨ha0c, ha0c'⟩, ⟨ha0d, ha0d'⟩, ⟨ha0e, ha0e'⟩, ⟨ha0f, ha0f'⟩, ⟨ha0m, ha0m'⟩, ⟨ha0n, ha0n'⟩, hs0o⟩
  show Calls Try.prog 10 #[.agg (cSeg ⟨a0a, a0b, a0c, a0d, a0e, a0f, b0g, b0i, b0j, b0k, a0m, a0n, s0o⟩).toArray, .int .u32 a1, .int .u32 a2] w fun e w' => e = .returned (.bool true) ∧ Below w.heap.size w w'
  generalize (⟨a0a, a0b, a0c, a0d, a0e, a0f, b0g, b0i, b0j, b0k, a0m, a0n, s0o⟩ : KSeg) = p at *
  by_cases hc : tcChk p = 0
  · obtain ⟨_, _, _, _, _, hb⟩ := tcChk_ok hc
    have hz := tcS_size p
    have hol : (tcOpt p).length ≤ 4 := by unfold tcOpt; split <;> simp
    have hW := fun W => tcWrite_ok p W ok hc
    have hR2 := fun W => tcRead_all a1 a2 (tcS p) W (by omega) ⟨ha1, ha1'⟩ ⟨ha2, ha2'⟩
    obtain ⟨k1, k2, k3, k4⟩ := tc_ends p ok hc a1 a2
    have h0 := (tc_back p ok hc).1
    by_cases hh : halves a1 a2 % 65535 = halves p.fa p.ta % 65535
    · have hhb : (halves a1 a2 % 65535 != halves p.fa p.ta % 65535) = false := by simpa using hh
      by_cases hE : tcErr a1 a2 (tcS p) = 0
      · rw [if_pos hE] at hR2
        exact tcEnds_near p _ a1 a2 _ _ w ok ⟨ha1, ha1'⟩ ⟨ha2, ha2'⟩ hhb hE k2 k3 k4 hW hR2
      · rw [if_neg hE] at hR2
        exact tcEnds_err5 p _ a1 a2 _ _ w ok ⟨ha1, ha1'⟩ ⟨ha2, ha2'⟩ hhb (by simpa using hE) rfl hW hR2
    · have hhb : (halves a1 a2 % 65535 != halves p.fa p.ta % 65535) = true := by simpa using hh
      have hs : tcSum p.fa p.ta ⟨(tz (tcS p)).toArray⟩ = tcN p := by
        obtain ⟨j1, _⟩ := tc_ends p ok hc p.fa p.ta
        rw [h0] at j1
        by_cases e : tcSum p.fa p.ta ⟨(tz (tcS p)).toArray⟩ = tcN p
        · exact e
        · rw [if_pos e] at j1; omega
      have ho := tc_other a1 a2 p.fa p.ta ⟨(tz (tcS p)).toArray⟩ ⟨ha1, ha1'⟩ ⟨ha2, ha2'⟩ ok.fa ok.ta hh
      rw [hs] at ho
      rw [if_pos ho] at k1
      rw [k1, if_neg (by decide)] at hR2
      exact tcEnds_far p _ a1 a2 _ _ w ok ⟨ha1, ha1'⟩ ⟨ha2, ha2'⟩ hhb rfl rfl hW hR2
  · exact tcEnds_no p a1 a2 _ w hc (fun W => tcWrite_no p W ok hc)
end Go.Proofs.Ytpjcbjacdkobmaa
