/- The walk of TcpBack: it returns true. -/
import Derived.Test.YtpjcbjacdkobmaaTcpL
namespace Go.Proofs.Ytpjcbjacdkobmaa
open Go.RowKit
set_option linter.unusedVariables false

theorem tcRead_all (s d : Int) (t : ByteArray) (w : World) (ht : t.size ≤ 140737488354000) (hs : 0 ≤ s ∧ s ≤ 4294967295) (hd : 0 ≤ d ∧ d ≤ 4294967295) :
    Calls Try.prog 21 #[.int .u32 s, .int .u32 d, .string t] w fun e w' => e = .returned (.tuple #[.agg (cSeg (if tcErr s d t = 0 then tcR s d t else oSeg)).toArray, .int .i64 (tcErr s d t)]) ∧ Below w.heap.size w w' := by
  by_cases h : t.size < 20
  · have e : tcErr s d t = 3 := by unfold tcErr; rw [if_pos h]
    rw [e, if_neg (by omega)]
    exact tcRead_short s d t w h
  · exact tcRead_any s d t w (by omega) ht hs hd
set_option maxRecDepth 100000 in
set_option maxHeartbeats 4000000 in
theorem tcBack_no (p : KSeg) (a b E : Int) (w : World) (hE : E ≠ 0)
    (hW : ∀ W, Calls Try.prog 20 #[.agg (cSeg p).toArray] W fun e w' => e = .returned (.tuple #[.string ⟨#[]⟩, .int .i64 E]) ∧ Below W.heap.size W w')
    (hC : ∀ W, Calls Try.prog 22 #[.agg (cSeg p).toArray] W fun e w' => e = .returned (.int .i64 E) ∧ Below W.heap.size W w') :
    Calls Try.prog 8 #[.agg (cSeg p).toArray, .int .i64 a, .int .i64 b] w fun e w' => e = .returned (.bool true) ∧ Below w.heap.size w w' := by
  have hne : ((E : Int) != 0) = true := by simpa using hE
  have HWR := Lib.hid hW
  have HCR := Lib.hid hC
  have HRD := Lib.hid (fun W => tcRead_short 0 0 ⟨#[]⟩ W (by show (0 : Nat) < 20; omega))
  have hM := Mem.nil w
  clear hW hC
  go_enter Try.func8, Try.ntmps8
  go_wp2_with (first
    | (go_at_call 20; go_must (refine (HWR.out _).mono ?_; rintro e W ⟨rfl, hb⟩; replace hM := hM.kept hb; clear hb))
    | (go_at_call 21; go_must (refine (HRD.out _).mono ?_; rintro e W ⟨rfl, hb⟩; replace hM := hM.kept hb; clear hb))
    | (go_at_call 22; go_must (refine (HCR.out _).mono ?_; rintro e W ⟨rfl, hb⟩; replace hM := hM.kept hb; clear hb))
    | (refine at_load_ (T := 22) ?_; first | (refine wpList_load1_mem (by go_simp) 22 _ rfl _ Try.underlying22 rfl 0 _ _ _ _ _ hM rfl rfl rfl ?_) | (refine wpList_load1_mem (by go_simp) 22 _ rfl _ Try.underlying22 rfl 1 _ _ _ _ _ hM rfl rfl rfl ?_) | (refine wpList_load1_mem (by go_simp) 22 _ rfl _ Try.underlying22 rfl 2 _ _ _ _ _ hM rfl rfl rfl ?_))
    | (refine at_load_ (T := 3) ?_; first | (refine wpList_load1_mem (by go_simp) 3 _ rfl _ Try.underlying3 rfl 0 _ _ _ _ _ hM rfl rfl rfl ?_) | (refine wpList_load1_mem (by go_simp) 3 _ rfl _ Try.underlying3 rfl 1 _ _ _ _ _ hM rfl rfl rfl ?_) | (refine wpList_load1_mem (by go_simp) 3 _ rfl _ Try.underlying3 rfl 2 _ _ _ _ _ hM rfl rfl rfl ?_))
    | (refine at_load_ (T := 4) ?_; first | (refine wpList_load1_mem (by go_simp) 4 _ rfl _ Try.underlying4 rfl 0 _ _ _ _ _ hM rfl rfl rfl ?_) | (refine wpList_load1_mem (by go_simp) 4 _ rfl _ Try.underlying4 rfl 1 _ _ _ _ _ hM rfl rfl rfl ?_) | (refine wpList_load1_mem (by go_simp) 4 _ rfl _ Try.underlying4 rfl 2 _ _ _ _ _ hM rfl rfl rfl ?_))
    | (refine at_load_ (T := 9) ?_; first | (refine wpList_load1_mem (by go_simp) 9 _ rfl _ Try.underlying9 rfl 0 _ _ _ _ _ hM rfl rfl rfl ?_) | (refine wpList_load1_mem (by go_simp) 9 _ rfl _ Try.underlying9 rfl 1 _ _ _ _ _ hM rfl rfl rfl ?_) | (refine wpList_load1_mem (by go_simp) 9 _ rfl _ Try.underlying9 rfl 2 _ _ _ _ _ hM rfl rfl rfl ?_))
    | (refine at_box_ ?_; refine wpList_box_mem rfl _ _ rfl _ rfl hM ?_; clear hM; intro gb W hM; first | (simp only [List.nil_append] at hM) | (simp only [List.cons_append, List.nil_append] at hM))
    | (refine at_alloc_ (T := 47) ?_; refine wpList_alloc_mem rfl 47 rfl _ zv_Seg _ rfl hM ?_; clear hM; intro gb W hM; first | (simp only [List.nil_append] at hM) | (simp only [List.cons_append, List.nil_append] at hM))
    | (refine at_load_ (T := 47) ?_; first | (refine wpList_loadg_mem (by go_simp) 47 _ rfl 0 _ _ _ hM rfl rfl _ Try.underlying47 rfl sz_Seg ?_) | (refine wpList_loadg_mem (by go_simp) 47 _ rfl 1 _ _ _ hM rfl rfl _ Try.underlying47 rfl sz_Seg ?_) | (refine wpList_loadg_mem (by go_simp) 47 _ rfl 2 _ _ _ hM rfl rfl _ Try.underlying47 rfl sz_Seg ?_))
    | (refine at_store_ (T := 47) ?_; first | (refine wpList_store_mem rfl 47 _ _ rfl 0 _ _ _ _ hM rfl rfl rfl rfl sz_Seg rfl ?_; clear hM; intro W hM; simp only [List.set_cons_zero] at hM) | (refine wpList_store_mem rfl 47 _ _ rfl 1 _ _ _ _ hM rfl rfl rfl rfl sz_Seg rfl ?_; clear hM; intro W hM; simp only [List.set_cons_succ, List.set_cons_zero] at hM) | (refine wpList_store_mem rfl 47 _ _ rfl 2 _ _ _ _ hM rfl rfl rfl rfl sz_Seg rfl ?_; clear hM; intro W hM; simp only [List.set_cons_succ, List.set_cons_zero] at hM)))
  go_ret
  exact ⟨rfl, hM.b⟩
set_option maxRecDepth 100000 in
set_option maxHeartbeats 4000000 in
theorem tcBack_ok (p r : KSeg) (t T : ByteArray) (a b G : Int) (w : World) (hG : G ≠ 0) (ht : 20 ≤ t.size) (ht2 : t.size ≤ 2000)
    (hW : ∀ W, Calls Try.prog 20 #[.agg (cSeg p).toArray] W fun e w' => e = .returned (.tuple #[.string t, .int .i64 0]) ∧ Below W.heap.size W w')
    (hR2 : ∀ W, Calls Try.prog 21 #[.int .u32 p.fa, .int .u32 p.ta, .string t] W fun e w' => e = .returned (.tuple #[.agg (cSeg p).toArray, .int .i64 0]) ∧ Below W.heap.size W w')
    (hT : ∀ W, Calls Try.prog 15 #[.string t, .int .i64 a, .int .i64 b] W fun e w' => e = .returned (.string T) ∧ Below W.heap.size W w')
    (hR3 : ∀ W, Calls Try.prog 21 #[.int .u32 p.fa, .int .u32 p.ta, .string T] W fun e w' => e = .returned (.tuple #[.agg (cSeg r).toArray, .int .i64 G]) ∧ Below W.heap.size W w') :
    Calls Try.prog 8 #[.agg (cSeg p).toArray, .int .i64 a, .int .i64 b] w fun e w' => e = .returned (.bool true) ∧ Below w.heap.size w w' := by
  have HWR := Lib.hid hW
  have HRD := Lib.hid (fun W => tcRead_short 0 0 ⟨#[]⟩ W (by show (0 : Nat) < 20; omega))
  have HR2 := Lib.hid hR2
  have HTT := Lib.hid (fun (w1 : World) (u : Later w1) => hT u.now)
  have HR3 := Lib.hid (fun (w1 : World) (u : Later w1) => hR3 u.now)
  have hge : ¬ (t.size : Int) < 20 := by omega
  have hM := Mem.nil w
  clear hW hR2 hT hR3
  go_enter Try.func8, Try.ntmps8
  go_upto_region 10 with         (first
          | (go_at_call 20; go_must (refine (HWR.out _).mono ?_; rintro e W ⟨rfl, hb⟩; replace hM := hM.kept hb; clear hb))
          | (go_at_call 21; first | (with_reducible refine (HRD.out _).mono ?_; rintro e W ⟨rfl, hb⟩; replace hM := hM.kept hb; clear hb) | (with_reducible refine (HR2.out _).mono ?_; rintro e W ⟨rfl, hb⟩; replace hM := hM.kept hb; clear hb))
          | (refine at_load_ (T := 22) ?_; first | (refine wpList_load1_mem (by go_simp) 22 _ rfl _ Try.underlying22 rfl 0 _ _ _ _ _ hM rfl rfl rfl ?_) | (refine wpList_load1_mem (by go_simp) 22 _ rfl _ Try.underlying22 rfl 1 _ _ _ _ _ hM rfl rfl rfl ?_) | (refine wpList_load1_mem (by go_simp) 22 _ rfl _ Try.underlying22 rfl 2 _ _ _ _ _ hM rfl rfl rfl ?_) | (refine wpList_load1_mem (by go_simp) 22 _ rfl _ Try.underlying22 rfl 3 _ _ _ _ _ hM rfl rfl rfl ?_))
          | (refine at_load_ (T := 3) ?_; first | (refine wpList_load1_mem (by go_simp) 3 _ rfl _ Try.underlying3 rfl 0 _ _ _ _ _ hM rfl rfl rfl ?_) | (refine wpList_load1_mem (by go_simp) 3 _ rfl _ Try.underlying3 rfl 1 _ _ _ _ _ hM rfl rfl rfl ?_) | (refine wpList_load1_mem (by go_simp) 3 _ rfl _ Try.underlying3 rfl 2 _ _ _ _ _ hM rfl rfl rfl ?_) | (refine wpList_load1_mem (by go_simp) 3 _ rfl _ Try.underlying3 rfl 3 _ _ _ _ _ hM rfl rfl rfl ?_))
          | (refine at_load_ (T := 4) ?_; first | (refine wpList_load1_mem (by go_simp) 4 _ rfl _ Try.underlying4 rfl 0 _ _ _ _ _ hM rfl rfl rfl ?_) | (refine wpList_load1_mem (by go_simp) 4 _ rfl _ Try.underlying4 rfl 1 _ _ _ _ _ hM rfl rfl rfl ?_) | (refine wpList_load1_mem (by go_simp) 4 _ rfl _ Try.underlying4 rfl 2 _ _ _ _ _ hM rfl rfl rfl ?_) | (refine wpList_load1_mem (by go_simp) 4 _ rfl _ Try.underlying4 rfl 3 _ _ _ _ _ hM rfl rfl rfl ?_))
          | (refine at_load_ (T := 9) ?_; first | (refine wpList_load1_mem (by go_simp) 9 _ rfl _ Try.underlying9 rfl 0 _ _ _ _ _ hM rfl rfl rfl ?_) | (refine wpList_load1_mem (by go_simp) 9 _ rfl _ Try.underlying9 rfl 1 _ _ _ _ _ hM rfl rfl rfl ?_) | (refine wpList_load1_mem (by go_simp) 9 _ rfl _ Try.underlying9 rfl 2 _ _ _ _ _ hM rfl rfl rfl ?_) | (refine wpList_load1_mem (by go_simp) 9 _ rfl _ Try.underlying9 rfl 3 _ _ _ _ _ hM rfl rfl rfl ?_))
          | (refine at_box_ ?_; refine wpList_box_mem rfl _ _ rfl _ rfl hM ?_; clear hM; intro gb W hM; first | (simp only [List.nil_append] at hM) | (simp only [List.cons_append, List.nil_append] at hM))
          | (refine at_alloc_ (T := 47) ?_; refine wpList_alloc_mem rfl 47 rfl _ zv_Seg _ rfl hM ?_; clear hM; intro gb W hM; first | (simp only [List.nil_append] at hM) | (simp only [List.cons_append, List.nil_append] at hM))
          | (refine at_load_ (T := 47) ?_; first | (refine wpList_loadg_mem (by go_simp) 47 _ rfl 0 _ _ _ hM rfl rfl _ Try.underlying47 rfl sz_Seg ?_) | (refine wpList_loadg_mem (by go_simp) 47 _ rfl 1 _ _ _ hM rfl rfl _ Try.underlying47 rfl sz_Seg ?_) | (refine wpList_loadg_mem (by go_simp) 47 _ rfl 2 _ _ _ hM rfl rfl _ Try.underlying47 rfl sz_Seg ?_) | (refine wpList_loadg_mem (by go_simp) 47 _ rfl 3 _ _ _ hM rfl rfl _ Try.underlying47 rfl sz_Seg ?_))
          | (refine at_store_ (T := 47) ?_; first | (refine wpList_store_mem rfl 47 _ _ rfl 0 _ _ _ _ hM rfl rfl rfl rfl sz_Seg rfl ?_; clear hM; intro W hM; simp only [List.set_cons_zero] at hM) | (refine wpList_store_mem rfl 47 _ _ rfl 1 _ _ _ _ hM rfl rfl rfl rfl sz_Seg rfl ?_; clear hM; intro W hM; simp only [List.set_cons_succ, List.set_cons_zero] at hM) | (refine wpList_store_mem rfl 47 _ _ rfl 2 _ _ _ _ hM rfl rfl rfl rfl sz_Seg rfl ?_; clear hM; intro W hM; simp only [List.set_cons_succ, List.set_cons_zero] at hM) | (refine wpList_store_mem rfl 47 _ _ rfl 3 _ _ _ _ hM rfl rfl rfl rfl sz_Seg rfl ?_; clear hM; intro W hM; simp only [List.set_cons_succ, List.set_cons_zero] at hM)))
  clear HWR HRD HR2
  refine wp_region_mix0 14 17 [.al 47 zSeg, .st 14 47 (cSeg r), .q (.int .i64 G)] _ hM (by kernel_rfl) (by kernel_rfl) (by kernel_rfl) (by kernel_rfl) rfl ?_
  apply Exists.intro
  refine ⟨?hq, ?hr⟩
  case hq =>
    intro w1 hM1 hlc
    have hc0 := hM1.cells 0 rfl
    have hlt0 := hM1.lt 0 rfl
    simp only [cSeg] at hc0
    simp only [List.take_succ_cons, List.take_zero]
    repeat (go_big_quiet_step (first | (go_at_call 15; first | (with_reducible exact later_call (HTT.out _ _))) | (go_at_call 21; first | (with_reducible exact later_call (HR3.out _ _)))))
    exact wpQuiet_nil rfl
  simp only [List.drop_succ_cons, List.drop_zero]
  refine ⟨rfl, rfl, zv_Seg, rfl, fun gx0 => ?_⟩
  refine ⟨_, _, _, _, rfl, rfl, rfl, rfl, rfl, rfl, rfl, sz_Seg, rfl, ?_⟩
  refine ⟨⟨_, .inl rfl, rfl, rfl⟩, ?_⟩
  intro W hF
  clear hM
  have hM : Mem _ W [atR _ _ _, atR _ _ _, atR _ _ _, atR _ _ _] := Mem.ofLf hF [17, 18, 19, 14] (by decide) rfl
  clear hF
  simp only [Act.put, List.setIfInBounds_toArray, List.set_cons_zero, List.set_cons_succ]
  have hng : ((G : Int) != 0) = true := by simpa using hG
  go_wp2_with (first
    | (refine at_eq_ (T := 47) ?_; first | (refine wpList_eq_mem (by go_simp) 47 _ _ _ rfl _ _ rfl rfl eg_Seg _ (eqT_Seg _) ?_) | (refine wpList_eq_mem (by go_simp) 47 _ _ _ rfl _ _ rfl rfl eg_Seg _ (eqF_Seg _ _ (by assumption)) ?_))
    | (refine at_ne_ (T := 47) ?_; first | (refine wpList_ne_mem (by go_simp) 47 _ _ _ rfl _ _ rfl rfl eg_Seg _ (eqT_Seg _) ?_) | (refine wpList_ne_mem (by go_simp) 47 _ _ _ rfl _ _ rfl rfl eg_Seg _ (eqF_Seg _ _ (by assumption)) ?_))
    | (refine at_load_ (T := 22) ?_; first | (refine wpList_load1_mem (by go_simp) 22 _ rfl _ Try.underlying22 rfl 0 _ _ _ _ _ hM rfl rfl rfl ?_) | (refine wpList_load1_mem (by go_simp) 22 _ rfl _ Try.underlying22 rfl 1 _ _ _ _ _ hM rfl rfl rfl ?_) | (refine wpList_load1_mem (by go_simp) 22 _ rfl _ Try.underlying22 rfl 2 _ _ _ _ _ hM rfl rfl rfl ?_) | (refine wpList_load1_mem (by go_simp) 22 _ rfl _ Try.underlying22 rfl 3 _ _ _ _ _ hM rfl rfl rfl ?_))
    | (refine at_load_ (T := 3) ?_; first | (refine wpList_load1_mem (by go_simp) 3 _ rfl _ Try.underlying3 rfl 0 _ _ _ _ _ hM rfl rfl rfl ?_) | (refine wpList_load1_mem (by go_simp) 3 _ rfl _ Try.underlying3 rfl 1 _ _ _ _ _ hM rfl rfl rfl ?_) | (refine wpList_load1_mem (by go_simp) 3 _ rfl _ Try.underlying3 rfl 2 _ _ _ _ _ hM rfl rfl rfl ?_) | (refine wpList_load1_mem (by go_simp) 3 _ rfl _ Try.underlying3 rfl 3 _ _ _ _ _ hM rfl rfl rfl ?_))
    | (refine at_load_ (T := 4) ?_; first | (refine wpList_load1_mem (by go_simp) 4 _ rfl _ Try.underlying4 rfl 0 _ _ _ _ _ hM rfl rfl rfl ?_) | (refine wpList_load1_mem (by go_simp) 4 _ rfl _ Try.underlying4 rfl 1 _ _ _ _ _ hM rfl rfl rfl ?_) | (refine wpList_load1_mem (by go_simp) 4 _ rfl _ Try.underlying4 rfl 2 _ _ _ _ _ hM rfl rfl rfl ?_) | (refine wpList_load1_mem (by go_simp) 4 _ rfl _ Try.underlying4 rfl 3 _ _ _ _ _ hM rfl rfl rfl ?_))
    | (refine at_load_ (T := 9) ?_; first | (refine wpList_load1_mem (by go_simp) 9 _ rfl _ Try.underlying9 rfl 0 _ _ _ _ _ hM rfl rfl rfl ?_) | (refine wpList_load1_mem (by go_simp) 9 _ rfl _ Try.underlying9 rfl 1 _ _ _ _ _ hM rfl rfl rfl ?_) | (refine wpList_load1_mem (by go_simp) 9 _ rfl _ Try.underlying9 rfl 2 _ _ _ _ _ hM rfl rfl rfl ?_) | (refine wpList_load1_mem (by go_simp) 9 _ rfl _ Try.underlying9 rfl 3 _ _ _ _ _ hM rfl rfl rfl ?_))
    | (refine at_box_ ?_; refine wpList_box_mem rfl _ _ rfl _ rfl hM ?_; clear hM; intro gb W hM; first | (simp only [List.nil_append] at hM) | (simp only [List.cons_append, List.nil_append] at hM))
    | (refine at_alloc_ (T := 47) ?_; refine wpList_alloc_mem rfl 47 rfl _ zv_Seg _ rfl hM ?_; clear hM; intro gb W hM; first | (simp only [List.nil_append] at hM) | (simp only [List.cons_append, List.nil_append] at hM))
    | (refine at_load_ (T := 47) ?_; first | (refine wpList_loadg_mem (by go_simp) 47 _ rfl 0 _ _ _ hM rfl rfl _ Try.underlying47 rfl sz_Seg ?_) | (refine wpList_loadg_mem (by go_simp) 47 _ rfl 1 _ _ _ hM rfl rfl _ Try.underlying47 rfl sz_Seg ?_) | (refine wpList_loadg_mem (by go_simp) 47 _ rfl 2 _ _ _ hM rfl rfl _ Try.underlying47 rfl sz_Seg ?_) | (refine wpList_loadg_mem (by go_simp) 47 _ rfl 3 _ _ _ hM rfl rfl _ Try.underlying47 rfl sz_Seg ?_))
    | (refine at_store_ (T := 47) ?_; first | (refine wpList_store_mem rfl 47 _ _ rfl 0 _ _ _ _ hM rfl rfl rfl rfl sz_Seg rfl ?_; clear hM; intro W hM; simp only [List.set_cons_zero] at hM) | (refine wpList_store_mem rfl 47 _ _ rfl 1 _ _ _ _ hM rfl rfl rfl rfl sz_Seg rfl ?_; clear hM; intro W hM; simp only [List.set_cons_succ, List.set_cons_zero] at hM) | (refine wpList_store_mem rfl 47 _ _ rfl 2 _ _ _ _ hM rfl rfl rfl rfl sz_Seg rfl ?_; clear hM; intro W hM; simp only [List.set_cons_succ, List.set_cons_zero] at hM) | (refine wpList_store_mem rfl 47 _ _ rfl 3 _ _ _ _ hM rfl rfl rfl rfl sz_Seg rfl ?_; clear hM; intro W hM; simp only [List.set_cons_succ, List.set_cons_zero] at hM)))
  go_ret
  exact ⟨rfl, hM.b⟩
theorem w_TcpBack (a0a : Int) (a0b : Int) (a0c : Int) (a0d : Int) (a0e : Int) (a0f : Int) (b0g : Bool) (b0i : Bool) (b0j : Bool) (b0k : Bool) (a0m : Int) (a0n : Int) (s0o : ByteArray) (a1 : Int) (a2 : Int) (w : World) (ha0a : 0 ≤ a0a) (ha0a' : a0a ≤ 4294967295) (ha0b : -9223372036854775808 ≤ a0b) (ha0b' : a0b ≤ 9223372036854775807) (ha0c : 0 ≤ a0c) (ha0c' : a0c ≤ 4294967295) (ha0d : -9223372036854775808 ≤ a0d) (ha0d' : a0d ≤ 9223372036854775807) (ha0e : 0 ≤ a0e) (ha0e' : a0e ≤ 4294967295) (ha0f : 0 ≤ a0f) (ha0f' : a0f ≤ 4294967295) (ha0m : -9223372036854775808 ≤ a0m) (ha0m' : a0m ≤ 9223372036854775807) (ha0n : -9223372036854775808 ≤ a0n) (ha0n' : a0n ≤ 9223372036854775807) (hs0o : s0o.size ≤ 9223372036854775807) (ha1 : -9223372036854775808 ≤ a1) (ha1' : a1 ≤ 9223372036854775807) (ha2 : -9223372036854775808 ≤ a2) (ha2' : a2 ≤ 9223372036854775807) :
    Calls Try.prog 8 #[.agg #[.int .u32 a0a, .int .i64 a0b, .int .u32 a0c, .int .i64 a0d, .int .u32 a0e, .int .u32 a0f, .bool b0g, .bool b0i, .bool b0j, .bool b0k, .int .i64 a0m, .int .i64 a0n, .string s0o], .int .i64 a1, .int .i64 a2] w fun e w' => e = .returned (.bool true) ∧ Below w.heap.size w w' := by
  have ok : SegOk ⟨a0a, a0b, a0c, a0d, a0e, a0f, b0g, b0i, b0j, b0k, a0m, a0n, s0o⟩ := ⟨⟨ha0a, ha0a'⟩, ⟨ha0b, ha0b'⟩, ⟨ha0c, ha0c'⟩, ⟨ha0d, ha0d'⟩, ⟨ha0e, ha0e'⟩, ⟨ha0f, ha0f'⟩, ⟨ha0m, ha0m'⟩, ⟨ha0n, ha0n'⟩, hs0o⟩
  show Calls Try.prog 8 #[.agg (cSeg ⟨a0a, a0b, a0c, a0d, a0e, a0f, b0g, b0i, b0j, b0k, a0m, a0n, s0o⟩).toArray, .int .i64 a1, .int .i64 a2] w fun e w' => e = .returned (.bool true) ∧ Below w.heap.size w w'
  generalize (⟨a0a, a0b, a0c, a0d, a0e, a0f, b0g, b0i, b0j, b0k, a0m, a0n, s0o⟩ : KSeg) = p at *
  have hC := fun W => tcCheck_any p W ok
  by_cases hc : tcChk p = 0
  · obtain ⟨_, _, _, _, _, hb⟩ := tcChk_ok hc
    have hz := tcS_size p
    have hol : (tcOpt p).length ≤ 4 := by unfold tcOpt; split <;> simp
    have hR2 := fun W => tcRead_all p.fa p.ta (tcS p) W (by omega) ok.fa ok.ta
    have h3 := tc_back p ok hc
    rw [h3.1, if_pos rfl, h3.2] at hR2
    obtain ⟨i, hi⟩ : ∃ i : Nat, a1 % ((tcS p).size : Int) = (i : Int) := ⟨(a1 % ((tcS p).size : Int)).toNat, by have := Int.emod_nonneg a1 (show ((tcS p).size : Int) ≠ 0 by omega); omega⟩
    have hil : i < (tcS p).size := by have := Int.emod_lt_of_pos a1 (show 0 < ((tcS p).size : Int) by omega); omega
    obtain ⟨j, hj⟩ : ∃ j : Nat, a2 % 8 = (j : Int) := ⟨(a2 % 8).toNat, by omega⟩
    have hT := fun W => turned_any (tcS p) a1 a2 W i j hil (by omega) (by omega) hi hj ha1 ha1' ha2 ha2'
    have hTl : (turnL (tcS p).data.toList i j).length = (tcS p).size := by rw [turnL_len]; simp
    have hG := tc_turned p ok hc i j hil (by omega) ⟨(turnL (tcS p).data.toList i j).toArray⟩ (by simp)
    have hR3 := fun W => tcRead_all p.fa p.ta ⟨(turnL (tcS p).data.toList i j).toArray⟩ W (by show (turnL (tcS p).data.toList i j).toArray.size ≤ _; rw [List.size_toArray, hTl]; omega) ok.fa ok.ta
    rw [if_neg hG] at hR3
    exact tcBack_ok p oSeg _ _ a1 a2 _ w hG (by omega) (by omega) (fun W => tcWrite_ok p W ok hc) hR2 hT hR3
  · exact tcBack_no p a1 a2 _ w hc (fun W => tcWrite_no p W ok hc) hC
end Go.Proofs.Ytpjcbjacdkobmaa
