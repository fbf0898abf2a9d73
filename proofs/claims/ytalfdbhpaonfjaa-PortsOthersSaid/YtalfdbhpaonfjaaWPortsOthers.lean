/- The walk of PortsOthers: it returns true. -/
import Derived.Test.YtalfdbhpaonfjaaBndL
namespace Go.Proofs.Ytalfdbhpaonfjaa
open Go.RowKit Go.Lib
set_option linter.unusedVariables false
set_option linter.unusedSimpArgs false

set_option maxRecDepth 100000 in
set_option maxHeartbeats 8000000 in
theorem w_PortsOthers (A0 : Option Addr) (n0 c0 : Nat) (css0 : Nat → List Value) (a1a : Int) (a1b : Int) (a1c : Int) (a1d : Int) (a1e : Int) (b1f : Bool) (a1g : Int) (a2a : Int) (a2b : Int) (a3a : Int) (a3b : Int) (a4 : Int) (w : World) (hR0 : Rows_ w A0 n0 ksStep css0) (hl0 : n0 ≤ 140737488351232) (ha1a : -9223372036854775808 ≤ a1a) (ha1a' : a1a ≤ 9223372036854775807) (ha1b : 0 ≤ a1b) (ha1b' : a1b ≤ 4294967295) (ha1c : -9223372036854775808 ≤ a1c) (ha1c' : a1c ≤ 9223372036854775807) (ha1d : 0 ≤ a1d) (ha1d' : a1d ≤ 4294967295) (ha1e : -9223372036854775808 ≤ a1e) (ha1e' : a1e ≤ 9223372036854775807) (ha1g : -9223372036854775808 ≤ a1g) (ha1g' : a1g ≤ 9223372036854775807) (ha2a : 0 ≤ a2a) (ha2a' : a2a ≤ 4294967295) (ha2b : -9223372036854775808 ≤ a2b) (ha2b' : a2b ≤ 9223372036854775807) (ha3a : 0 ≤ a3a) (ha3a' : a3a ≤ 4294967295) (ha3b : -9223372036854775808 ≤ a3b) (ha3b' : a3b ≤ 9223372036854775807) (ha4 : 0 ≤ a4) (ha4' : a4 ≤ 18446744073709551615) :
    Calls Try.prog 11 #[.slice A0 n0 c0, .agg #[.int .i64 a1a, .int .u32 a1b, .int .i64 a1c, .int .u32 a1d, .int .i64 a1e, .bool b1f, .int .i64 a1g], .agg #[.int .u32 a2a, .int .i64 a2b], .agg #[.int .u32 a3a, .int .i64 a3b], .int .u64 a4] w fun e w' => e = .returned (.bool true) ∧ Below w.heap.size w w' := by
  obtain ⟨n, rfl⟩ : ∃ n : Nat, a4 = n := ⟨a4.toNat, by omega⟩
  have hn : n < 18446744073709551616 := by omega
  have HB := Lib.hid (fun W hB => bound_any A0 n0 c0 css0 W (hR0.kept_ hB) hl0)
  have hM := Mem.nil w
  clear hR0
  go_enter Try.func11, Try.ntmps11
  go_upto_region 1 with         (first
          | (refine at_box_ ?_; refine wpList_box_mem rfl _ _ rfl _ rfl hM ?_; clear hM; intro gb W hM; first | (simp only [List.nil_append] at hM) | (simp only [List.cons_append, List.nil_append] at hM)))
  replace hM : Mem w W [atR _ 49 (cBound ⟨a1a, a1b, a1c, a1d, a1e, b1f, a1g⟩), atR _ 41 (cEnd ⟨a2a, a2b⟩), atR gb 41 (cEnd ⟨a3a, a3b⟩)] := hM
  go_wp2_with fail
  refine (HB.out _ hM.b).mono ?_
  rintro x W1 ⟨g, v, l, rfl, hM6, hI⟩
  replace hM := hM.new_ hM6
  simp only [List.cons_append, List.nil_append] at hM
  clear hM6 HB
  dsimp only
  have hl := hI.len
  have HF := Lib.hid (fun W hA hR => Find_any g v l 6 ⟨a2a, a2b⟩ ⟨a3a, a3b⟩ n W hA hR hl hn)
  go_upto_region 5 with         (first
          | (go_at_call 25; refine (HF.out _ (hM.at_ 0 rfl) (hM.toRd 1 rfl)).mono ?_; rintro x W ⟨rfl, hb⟩; replace hM := hM.kept hb; clear hb; dsimp only)
          | (refine at_box_ ?_; refine wpList_box_mem rfl _ _ rfl _ rfl hM ?_; clear hM; intro gb W hM; first | (simp only [List.nil_append] at hM) | (simp only [List.cons_append, List.nil_append] at hM))
          | (refine at_alloc_ (T := 41) ?_; refine wpList_alloc_mem rfl 41 rfl _ zv_End _ rfl hM ?_; clear hM; intro gb W hM; first | (simp only [List.nil_append] at hM) | (simp only [List.cons_append, List.nil_append] at hM))
          | (refine at_load_ (T := 41) ?_; refine at_wanted_ (by go_simp) ?_; first | (refine wpList_loadg_mem (by go_simp) 41 _ rfl 0 _ _ _ hM rfl rfl _ Try.underlying41 rfl sz_End ?_) | (refine wpList_loadg_mem (by go_simp) 41 _ rfl 1 _ _ _ hM rfl rfl _ Try.underlying41 rfl sz_End ?_) | (refine wpList_loadg_mem (by go_simp) 41 _ rfl 2 _ _ _ hM rfl rfl _ Try.underlying41 rfl sz_End ?_) | (refine wpList_loadg_mem (by go_simp) 41 _ rfl 3 _ _ _ hM rfl rfl _ Try.underlying41 rfl sz_End ?_) | (refine wpList_loadg_mem (by go_simp) 41 _ rfl 4 _ _ _ hM rfl rfl _ Try.underlying41 rfl sz_End ?_))
          | (refine at_store_ (T := 41) ?_; first | (refine wpList_store_mem rfl 41 _ _ rfl 0 _ _ _ _ hM rfl rfl rfl rfl sz_End rfl ?_; clear hM; intro W hM; simp only [List.set_cons_zero] at hM) | (refine wpList_store_mem rfl 41 _ _ rfl 1 _ _ _ _ hM rfl rfl rfl rfl sz_End rfl ?_; clear hM; intro W hM; simp only [List.set_cons_succ, List.set_cons_zero] at hM) | (refine wpList_store_mem rfl 41 _ _ rfl 2 _ _ _ _ hM rfl rfl rfl rfl sz_End rfl ?_; clear hM; intro W hM; simp only [List.set_cons_succ, List.set_cons_zero] at hM) | (refine wpList_store_mem rfl 41 _ _ rfl 3 _ _ _ _ hM rfl rfl rfl rfl sz_End rfl ?_; clear hM; intro W hM; simp only [List.set_cons_succ, List.set_cons_zero] at hM) | (refine wpList_store_mem rfl 41 _ _ rfl 4 _ _ _ _ hM rfl rfl rfl rfl sz_End rfl ?_; clear hM; intro W hM; simp only [List.set_cons_succ, List.set_cons_zero] at hM)))
  clear HF
  by_cases h6 : a1a = 6
  · by_cases hp : a1c = a2b
    · subst h6
      have e2 : (a1c == a2b) = true := by simpa using hp
      clear hp
      have hfo : pFind (pBind l ⟨17, a1b, a1c, a1d, a1e, b1f, a1g⟩) 6 ⟨a2a, a2b⟩ ⟨a3a, a3b⟩ n = pFind l 6 ⟨a2a, a2b⟩ ⟨a3a, a3b⟩ n := find_other (by simp)
      have HBD := Lib.hid (fun W h => Bind_any g v l ⟨17, a1b, a1c, a1d, a1e, b1f, a1g⟩ W h hI)
      have hl2 := binv_bind' hI ⟨17, a1b, a1c, a1d, a1e, b1f, a1g⟩
      have HF := Lib.hid (fun v W hA hR => Find_any g v (pBind l ⟨17, a1b, a1c, a1d, a1e, b1f, a1g⟩) 6 ⟨a2a, a2b⟩ ⟨a3a, a3b⟩ n W hA hR hl2 hn)
      rw [hfo] at HF
      have hcb := hM.cells 2 rfl
      have hcl := hM.cells 3 rfl
      have hl0 := hM.lt 2 rfl
      have hl1 := hM.lt 3 rfl
      simp only [cBound, cEnd] at hcb hcl
      generalize pBind l ⟨17, a1b, a1c, a1d, a1e, b1f, a1g⟩ = l2 at *
      clear hfo hl2
      go_upto_region 6 with (fail)
      clear hcb hcl
      go_upto_region 7 with         (first
          | (refine at_box_ ?_; refine wpList_box_mem rfl _ _ rfl _ rfl hM ?_; clear hM; intro gb W hM; first | (simp only [List.nil_append] at hM) | (simp only [List.cons_append, List.nil_append] at hM))
          | (refine at_load_ ?_; refine at_wanted_ (by go_simp) ?_; first | (refine wpList_loadf_mem (by go_simp) _ _ rfl (by kernel_rfl) 0 _ _ _ _ _ hM rfl rfl (by first | rfl | assumption) ?_) | (refine wpList_loadf_mem (by go_simp) _ _ rfl (by kernel_rfl) 1 _ _ _ _ _ hM rfl rfl (by first | rfl | assumption) ?_) | (refine wpList_loadf_mem (by go_simp) _ _ rfl (by kernel_rfl) 2 _ _ _ _ _ hM rfl rfl (by first | rfl | assumption) ?_))
          | (refine at_store_ ?_; first | (refine wpList_store1_mem rfl _ _ _ rfl 0 _ _ _ _ _ hM rfl rfl (by first | ((conv => lhs; whnf); done) | ((conv => lhs; whnf); rfl)) (by rfl) (by rfl) (by kernel_rfl) rfl ?_; clear hM; intro W hM; simp only [pA, cBound, List.set_cons_succ, List.set_cons_zero] at hM) | (refine wpList_store1_mem rfl _ _ _ rfl 1 _ _ _ _ _ hM rfl rfl (by first | ((conv => lhs; whnf); done) | ((conv => lhs; whnf); rfl)) (by rfl) (by rfl) (by kernel_rfl) rfl ?_; clear hM; intro W hM; simp only [pA, cBound, List.set_cons_succ, List.set_cons_zero] at hM) | (refine wpList_store1_mem rfl _ _ _ rfl 2 _ _ _ _ _ hM rfl rfl (by first | ((conv => lhs; whnf); done) | ((conv => lhs; whnf); rfl)) (by rfl) (by rfl) (by kernel_rfl) rfl ?_; clear hM; intro W hM; simp only [pA, cBound, List.set_cons_succ, List.set_cons_zero] at hM)))
      replace hM : Mem w W [pA g v, pW v l, atR _ 49 (cBound ⟨17, a1b, a1c, a1d, a1e, b1f, a1g⟩), atR _ 41 (cEnd ⟨a2a, a2b⟩), atR gb 41 (cEnd ⟨a3a, a3b⟩)] := hM
      simp only [Act.put]
      go_wp2_with (first
        | (go_at_call 24; refine (HBD.out _ (p_hand _ hM)).mono ?_; rintro x W ⟨v6, rfl, hM6⟩; replace hM := p_put _ hM hM6; clear hM6; dsimp only)
        | (go_at_call 25; refine (HF.out _ _ (hM.at_ 0 rfl) (hM.toRd 1 rfl)).mono ?_; rintro x W ⟨rfl, hb⟩; replace hM := hM.kept hb; clear hb; dsimp only)
        | (refine at_box_ ?_; refine wpList_box_mem rfl _ _ rfl _ rfl hM ?_; clear hM; intro gb W hM; first | (simp only [List.nil_append] at hM) | (simp only [List.cons_append, List.nil_append] at hM))
        | (refine at_alloc_ (T := 49) ?_; refine wpList_alloc_mem rfl 49 rfl _ zv_Bound _ rfl hM ?_; clear hM; intro gb W hM; first | (simp only [List.nil_append] at hM) | (simp only [List.cons_append, List.nil_append] at hM))
        | (refine at_load_ (T := 49) ?_; refine at_wanted_ (by go_simp) ?_; first | (refine wpList_loadg_mem (by go_simp) 49 _ rfl 0 _ _ _ hM rfl rfl _ Try.underlying49 rfl sz_Bound ?_) | (refine wpList_loadg_mem (by go_simp) 49 _ rfl 1 _ _ _ hM rfl rfl _ Try.underlying49 rfl sz_Bound ?_) | (refine wpList_loadg_mem (by go_simp) 49 _ rfl 2 _ _ _ hM rfl rfl _ Try.underlying49 rfl sz_Bound ?_) | (refine wpList_loadg_mem (by go_simp) 49 _ rfl 3 _ _ _ hM rfl rfl _ Try.underlying49 rfl sz_Bound ?_) | (refine wpList_loadg_mem (by go_simp) 49 _ rfl 4 _ _ _ hM rfl rfl _ Try.underlying49 rfl sz_Bound ?_))
        | (refine at_store_ (T := 49) ?_; first | (refine wpList_store_mem rfl 49 _ _ rfl 0 _ _ _ _ hM rfl rfl rfl rfl sz_Bound rfl ?_; clear hM; intro W hM; simp only [List.set_cons_zero] at hM) | (refine wpList_store_mem rfl 49 _ _ rfl 1 _ _ _ _ hM rfl rfl rfl rfl sz_Bound rfl ?_; clear hM; intro W hM; simp only [List.set_cons_succ, List.set_cons_zero] at hM) | (refine wpList_store_mem rfl 49 _ _ rfl 2 _ _ _ _ hM rfl rfl rfl rfl sz_Bound rfl ?_; clear hM; intro W hM; simp only [List.set_cons_succ, List.set_cons_zero] at hM) | (refine wpList_store_mem rfl 49 _ _ rfl 3 _ _ _ _ hM rfl rfl rfl rfl sz_Bound rfl ?_; clear hM; intro W hM; simp only [List.set_cons_succ, List.set_cons_zero] at hM) | (refine wpList_store_mem rfl 49 _ _ rfl 4 _ _ _ _ hM rfl rfl rfl rfl sz_Bound rfl ?_; clear hM; intro W hM; simp only [List.set_cons_succ, List.set_cons_zero] at hM))
        | (refine at_alloc_ (T := 41) ?_; refine wpList_alloc_mem rfl 41 rfl _ zv_End _ rfl hM ?_; clear hM; intro gb W hM; first | (simp only [List.nil_append] at hM) | (simp only [List.cons_append, List.nil_append] at hM))
        | (refine at_load_ (T := 41) ?_; refine at_wanted_ (by go_simp) ?_; first | (refine wpList_loadg_mem (by go_simp) 41 _ rfl 0 _ _ _ hM rfl rfl _ Try.underlying41 rfl sz_End ?_) | (refine wpList_loadg_mem (by go_simp) 41 _ rfl 1 _ _ _ hM rfl rfl _ Try.underlying41 rfl sz_End ?_) | (refine wpList_loadg_mem (by go_simp) 41 _ rfl 2 _ _ _ hM rfl rfl _ Try.underlying41 rfl sz_End ?_) | (refine wpList_loadg_mem (by go_simp) 41 _ rfl 3 _ _ _ hM rfl rfl _ Try.underlying41 rfl sz_End ?_) | (refine wpList_loadg_mem (by go_simp) 41 _ rfl 4 _ _ _ hM rfl rfl _ Try.underlying41 rfl sz_End ?_))
        | (refine at_store_ (T := 41) ?_; first | (refine wpList_store_mem rfl 41 _ _ rfl 0 _ _ _ _ hM rfl rfl rfl rfl sz_End rfl ?_; clear hM; intro W hM; simp only [List.set_cons_zero] at hM) | (refine wpList_store_mem rfl 41 _ _ rfl 1 _ _ _ _ hM rfl rfl rfl rfl sz_End rfl ?_; clear hM; intro W hM; simp only [List.set_cons_succ, List.set_cons_zero] at hM) | (refine wpList_store_mem rfl 41 _ _ rfl 2 _ _ _ _ hM rfl rfl rfl rfl sz_End rfl ?_; clear hM; intro W hM; simp only [List.set_cons_succ, List.set_cons_zero] at hM) | (refine wpList_store_mem rfl 41 _ _ rfl 3 _ _ _ _ hM rfl rfl rfl rfl sz_End rfl ?_; clear hM; intro W hM; simp only [List.set_cons_succ, List.set_cons_zero] at hM) | (refine wpList_store_mem rfl 41 _ _ rfl 4 _ _ _ _ hM rfl rfl rfl rfl sz_End rfl ?_; clear hM; intro W hM; simp only [List.set_cons_succ, List.set_cons_zero] at hM)))
      go_ret
      exact ⟨rfl, hM.b⟩
    · subst h6
      have e2 : (a1c == a2b) = false := by simpa using hp
      have hfo : pFind (pBind l ⟨6, a1b, a1c, a1d, a1e, b1f, a1g⟩) 6 ⟨a2a, a2b⟩ ⟨a3a, a3b⟩ n = pFind l 6 ⟨a2a, a2b⟩ ⟨a3a, a3b⟩ n := find_other (by simp [hp])
      have HBD := Lib.hid (fun W h => Bind_any g v l ⟨6, a1b, a1c, a1d, a1e, b1f, a1g⟩ W h hI)
      have hl2 := binv_bind' hI ⟨6, a1b, a1c, a1d, a1e, b1f, a1g⟩
      have HF := Lib.hid (fun v W hA hR => Find_any g v (pBind l ⟨6, a1b, a1c, a1d, a1e, b1f, a1g⟩) 6 ⟨a2a, a2b⟩ ⟨a3a, a3b⟩ n W hA hR hl2 hn)
      rw [hfo] at HF
      clear hp
      have hcb := hM.cells 2 rfl
      have hcl := hM.cells 3 rfl
      have hl0 := hM.lt 2 rfl
      have hl1 := hM.lt 3 rfl
      simp only [cBound, cEnd] at hcb hcl
      generalize pBind l ⟨6, a1b, a1c, a1d, a1e, b1f, a1g⟩ = l2 at *
      clear hfo hl2
      go_upto_region 7 with (fail)
      clear hcb hcl
      go_wp2_with (first
        | (go_at_call 24; refine (HBD.out _ (p_hand _ hM)).mono ?_; rintro x W ⟨v6, rfl, hM6⟩; replace hM := p_put _ hM hM6; clear hM6; dsimp only)
        | (go_at_call 25; refine (HF.out _ _ (hM.at_ 0 rfl) (hM.toRd 1 rfl)).mono ?_; rintro x W ⟨rfl, hb⟩; replace hM := hM.kept hb; clear hb; dsimp only)
        | (refine at_box_ ?_; refine wpList_box_mem rfl _ _ rfl _ rfl hM ?_; clear hM; intro gb W hM; first | (simp only [List.nil_append] at hM) | (simp only [List.cons_append, List.nil_append] at hM))
        | (refine at_alloc_ (T := 49) ?_; refine wpList_alloc_mem rfl 49 rfl _ zv_Bound _ rfl hM ?_; clear hM; intro gb W hM; first | (simp only [List.nil_append] at hM) | (simp only [List.cons_append, List.nil_append] at hM))
        | (refine at_load_ (T := 49) ?_; refine at_wanted_ (by go_simp) ?_; first | (refine wpList_loadg_mem (by go_simp) 49 _ rfl 0 _ _ _ hM rfl rfl _ Try.underlying49 rfl sz_Bound ?_) | (refine wpList_loadg_mem (by go_simp) 49 _ rfl 1 _ _ _ hM rfl rfl _ Try.underlying49 rfl sz_Bound ?_) | (refine wpList_loadg_mem (by go_simp) 49 _ rfl 2 _ _ _ hM rfl rfl _ Try.underlying49 rfl sz_Bound ?_) | (refine wpList_loadg_mem (by go_simp) 49 _ rfl 3 _ _ _ hM rfl rfl _ Try.underlying49 rfl sz_Bound ?_) | (refine wpList_loadg_mem (by go_simp) 49 _ rfl 4 _ _ _ hM rfl rfl _ Try.underlying49 rfl sz_Bound ?_))
        | (refine at_store_ (T := 49) ?_; first | (refine wpList_store_mem rfl 49 _ _ rfl 0 _ _ _ _ hM rfl rfl rfl rfl sz_Bound rfl ?_; clear hM; intro W hM; simp only [List.set_cons_zero] at hM) | (refine wpList_store_mem rfl 49 _ _ rfl 1 _ _ _ _ hM rfl rfl rfl rfl sz_Bound rfl ?_; clear hM; intro W hM; simp only [List.set_cons_succ, List.set_cons_zero] at hM) | (refine wpList_store_mem rfl 49 _ _ rfl 2 _ _ _ _ hM rfl rfl rfl rfl sz_Bound rfl ?_; clear hM; intro W hM; simp only [List.set_cons_succ, List.set_cons_zero] at hM) | (refine wpList_store_mem rfl 49 _ _ rfl 3 _ _ _ _ hM rfl rfl rfl rfl sz_Bound rfl ?_; clear hM; intro W hM; simp only [List.set_cons_succ, List.set_cons_zero] at hM) | (refine wpList_store_mem rfl 49 _ _ rfl 4 _ _ _ _ hM rfl rfl rfl rfl sz_Bound rfl ?_; clear hM; intro W hM; simp only [List.set_cons_succ, List.set_cons_zero] at hM))
        | (refine at_alloc_ (T := 41) ?_; refine wpList_alloc_mem rfl 41 rfl _ zv_End _ rfl hM ?_; clear hM; intro gb W hM; first | (simp only [List.nil_append] at hM) | (simp only [List.cons_append, List.nil_append] at hM))
        | (refine at_load_ (T := 41) ?_; refine at_wanted_ (by go_simp) ?_; first | (refine wpList_loadg_mem (by go_simp) 41 _ rfl 0 _ _ _ hM rfl rfl _ Try.underlying41 rfl sz_End ?_) | (refine wpList_loadg_mem (by go_simp) 41 _ rfl 1 _ _ _ hM rfl rfl _ Try.underlying41 rfl sz_End ?_) | (refine wpList_loadg_mem (by go_simp) 41 _ rfl 2 _ _ _ hM rfl rfl _ Try.underlying41 rfl sz_End ?_) | (refine wpList_loadg_mem (by go_simp) 41 _ rfl 3 _ _ _ hM rfl rfl _ Try.underlying41 rfl sz_End ?_) | (refine wpList_loadg_mem (by go_simp) 41 _ rfl 4 _ _ _ hM rfl rfl _ Try.underlying41 rfl sz_End ?_))
        | (refine at_store_ (T := 41) ?_; first | (refine wpList_store_mem rfl 41 _ _ rfl 0 _ _ _ _ hM rfl rfl rfl rfl sz_End rfl ?_; clear hM; intro W hM; simp only [List.set_cons_zero] at hM) | (refine wpList_store_mem rfl 41 _ _ rfl 1 _ _ _ _ hM rfl rfl rfl rfl sz_End rfl ?_; clear hM; intro W hM; simp only [List.set_cons_succ, List.set_cons_zero] at hM) | (refine wpList_store_mem rfl 41 _ _ rfl 2 _ _ _ _ hM rfl rfl rfl rfl sz_End rfl ?_; clear hM; intro W hM; simp only [List.set_cons_succ, List.set_cons_zero] at hM) | (refine wpList_store_mem rfl 41 _ _ rfl 3 _ _ _ _ hM rfl rfl rfl rfl sz_End rfl ?_; clear hM; intro W hM; simp only [List.set_cons_succ, List.set_cons_zero] at hM) | (refine wpList_store_mem rfl 41 _ _ rfl 4 _ _ _ _ hM rfl rfl rfl rfl sz_End rfl ?_; clear hM; intro W hM; simp only [List.set_cons_succ, List.set_cons_zero] at hM)))
      go_ret
      exact ⟨rfl, hM.b⟩
  · have e1 : (a1a == 6) = false := by simpa using h6
    have hfo : pFind (pBind l ⟨a1a, a1b, a1c, a1d, a1e, b1f, a1g⟩) 6 ⟨a2a, a2b⟩ ⟨a3a, a3b⟩ n = pFind l 6 ⟨a2a, a2b⟩ ⟨a3a, a3b⟩ n := find_other (by simp [h6])
    have HBD := Lib.hid (fun W h => Bind_any g v l ⟨a1a, a1b, a1c, a1d, a1e, b1f, a1g⟩ W h hI)
    have hl2 := binv_bind' hI ⟨a1a, a1b, a1c, a1d, a1e, b1f, a1g⟩
    have HF := Lib.hid (fun v W hA hR => Find_any g v (pBind l ⟨a1a, a1b, a1c, a1d, a1e, b1f, a1g⟩) 6 ⟨a2a, a2b⟩ ⟨a3a, a3b⟩ n W hA hR hl2 hn)
    rw [hfo] at HF
    clear h6
    have hcb := hM.cells 2 rfl
    have hcl := hM.cells 3 rfl
    have hl0 := hM.lt 2 rfl
    have hl1 := hM.lt 3 rfl
    simp only [cBound, cEnd] at hcb hcl
    generalize pBind l ⟨a1a, a1b, a1c, a1d, a1e, b1f, a1g⟩ = l2 at *
    clear hfo hl2
    go_upto_region 7 with (fail)
    clear hcb hcl
    go_wp2_with (first
      | (go_at_call 24; refine (HBD.out _ (p_hand _ hM)).mono ?_; rintro x W ⟨v6, rfl, hM6⟩; replace hM := p_put _ hM hM6; clear hM6; dsimp only)
      | (go_at_call 25; refine (HF.out _ _ (hM.at_ 0 rfl) (hM.toRd 1 rfl)).mono ?_; rintro x W ⟨rfl, hb⟩; replace hM := hM.kept hb; clear hb; dsimp only)
      | (refine at_box_ ?_; refine wpList_box_mem rfl _ _ rfl _ rfl hM ?_; clear hM; intro gb W hM; first | (simp only [List.nil_append] at hM) | (simp only [List.cons_append, List.nil_append] at hM))
      | (refine at_alloc_ (T := 49) ?_; refine wpList_alloc_mem rfl 49 rfl _ zv_Bound _ rfl hM ?_; clear hM; intro gb W hM; first | (simp only [List.nil_append] at hM) | (simp only [List.cons_append, List.nil_append] at hM))
      | (refine at_load_ (T := 49) ?_; refine at_wanted_ (by go_simp) ?_; first | (refine wpList_loadg_mem (by go_simp) 49 _ rfl 0 _ _ _ hM rfl rfl _ Try.underlying49 rfl sz_Bound ?_) | (refine wpList_loadg_mem (by go_simp) 49 _ rfl 1 _ _ _ hM rfl rfl _ Try.underlying49 rfl sz_Bound ?_) | (refine wpList_loadg_mem (by go_simp) 49 _ rfl 2 _ _ _ hM rfl rfl _ Try.underlying49 rfl sz_Bound ?_) | (refine wpList_loadg_mem (by go_simp) 49 _ rfl 3 _ _ _ hM rfl rfl _ Try.underlying49 rfl sz_Bound ?_) | (refine wpList_loadg_mem (by go_simp) 49 _ rfl 4 _ _ _ hM rfl rfl _ Try.underlying49 rfl sz_Bound ?_))
      | (refine at_store_ (T := 49) ?_; first | (refine wpList_store_mem rfl 49 _ _ rfl 0 _ _ _ _ hM rfl rfl rfl rfl sz_Bound rfl ?_; clear hM; intro W hM; simp only [List.set_cons_zero] at hM) | (refine wpList_store_mem rfl 49 _ _ rfl 1 _ _ _ _ hM rfl rfl rfl rfl sz_Bound rfl ?_; clear hM; intro W hM; simp only [List.set_cons_succ, List.set_cons_zero] at hM) | (refine wpList_store_mem rfl 49 _ _ rfl 2 _ _ _ _ hM rfl rfl rfl rfl sz_Bound rfl ?_; clear hM; intro W hM; simp only [List.set_cons_succ, List.set_cons_zero] at hM) | (refine wpList_store_mem rfl 49 _ _ rfl 3 _ _ _ _ hM rfl rfl rfl rfl sz_Bound rfl ?_; clear hM; intro W hM; simp only [List.set_cons_succ, List.set_cons_zero] at hM) | (refine wpList_store_mem rfl 49 _ _ rfl 4 _ _ _ _ hM rfl rfl rfl rfl sz_Bound rfl ?_; clear hM; intro W hM; simp only [List.set_cons_succ, List.set_cons_zero] at hM))
      | (refine at_alloc_ (T := 41) ?_; refine wpList_alloc_mem rfl 41 rfl _ zv_End _ rfl hM ?_; clear hM; intro gb W hM; first | (simp only [List.nil_append] at hM) | (simp only [List.cons_append, List.nil_append] at hM))
      | (refine at_load_ (T := 41) ?_; refine at_wanted_ (by go_simp) ?_; first | (refine wpList_loadg_mem (by go_simp) 41 _ rfl 0 _ _ _ hM rfl rfl _ Try.underlying41 rfl sz_End ?_) | (refine wpList_loadg_mem (by go_simp) 41 _ rfl 1 _ _ _ hM rfl rfl _ Try.underlying41 rfl sz_End ?_) | (refine wpList_loadg_mem (by go_simp) 41 _ rfl 2 _ _ _ hM rfl rfl _ Try.underlying41 rfl sz_End ?_) | (refine wpList_loadg_mem (by go_simp) 41 _ rfl 3 _ _ _ hM rfl rfl _ Try.underlying41 rfl sz_End ?_) | (refine wpList_loadg_mem (by go_simp) 41 _ rfl 4 _ _ _ hM rfl rfl _ Try.underlying41 rfl sz_End ?_))
      | (refine at_store_ (T := 41) ?_; first | (refine wpList_store_mem rfl 41 _ _ rfl 0 _ _ _ _ hM rfl rfl rfl rfl sz_End rfl ?_; clear hM; intro W hM; simp only [List.set_cons_zero] at hM) | (refine wpList_store_mem rfl 41 _ _ rfl 1 _ _ _ _ hM rfl rfl rfl rfl sz_End rfl ?_; clear hM; intro W hM; simp only [List.set_cons_succ, List.set_cons_zero] at hM) | (refine wpList_store_mem rfl 41 _ _ rfl 2 _ _ _ _ hM rfl rfl rfl rfl sz_End rfl ?_; clear hM; intro W hM; simp only [List.set_cons_succ, List.set_cons_zero] at hM) | (refine wpList_store_mem rfl 41 _ _ rfl 3 _ _ _ _ hM rfl rfl rfl rfl sz_End rfl ?_; clear hM; intro W hM; simp only [List.set_cons_succ, List.set_cons_zero] at hM) | (refine wpList_store_mem rfl 41 _ _ rfl 4 _ _ _ _ hM rfl rfl rfl rfl sz_End rfl ?_; clear hM; intro W hM; simp only [List.set_cons_succ, List.set_cons_zero] at hM)))
    go_ret
    exact ⟨rfl, hM.b⟩
end Go.Proofs.Ytalfdbhpaonfjaa
