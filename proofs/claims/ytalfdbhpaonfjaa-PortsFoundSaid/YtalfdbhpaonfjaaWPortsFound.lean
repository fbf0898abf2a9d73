/- The walk of PortsFound: it returns true. Written by my genpf.py. -/
import Derived.Test.YtalfdbhpaonfjaaBndL
import Derived.Test.YtalfdbhpaonfjaaSeqv
import Derived.Deep.CutBlock
namespace Go.Proofs.Ytalfdbhpaonfjaa
open Go.RowKit Go.Lib
set_option linter.unusedVariables false
set_option linter.unusedSimpArgs false

set_option maxRecDepth 100000 in
set_option maxHeartbeats 16000000 in
theorem w_PortsFound (A0 : Option Addr) (n0 c0 : Nat) (css0 : Nat → List Value) (a1 : Int) (a2a : Int) (a2b : Int) (a3a : Int) (a3b : Int) (a4 : Int) (w : World) (hR0 : Rows_ w A0 n0 ksStep css0) (hl0 : n0 ≤ 140737488351232) (ha1 : -9223372036854775808 ≤ a1) (ha1' : a1 ≤ 9223372036854775807) (ha2a : 0 ≤ a2a) (ha2a' : a2a ≤ 4294967295) (ha2b : -9223372036854775808 ≤ a2b) (ha2b' : a2b ≤ 9223372036854775807) (ha3a : 0 ≤ a3a) (ha3a' : a3a ≤ 4294967295) (ha3b : -9223372036854775808 ≤ a3b) (ha3b' : a3b ≤ 9223372036854775807) (ha4 : 0 ≤ a4) (ha4' : a4 ≤ 18446744073709551615) :
    Calls Try.prog 12 #[.slice A0 n0 c0, .int .i64 a1, .agg #[.int .u32 a2a, .int .i64 a2b], .agg #[.int .u32 a3a, .int .i64 a3b], .int .u64 a4] w fun e w' => e = .returned (.bool true) ∧ Below w.heap.size w w' := by
  obtain ⟨n, rfl⟩ : ∃ n : Nat, a4 = n := ⟨a4.toNat, by omega⟩
  have hn : n < 18446744073709551616 := by omega
  have HB := Lib.hid (fun W hB => bound_any A0 n0 c0 css0 W (hR0.kept_ hB) hl0)
  have hM := Mem.nil w
  clear hR0
  go_enter Try.func12, Try.ntmps12
  go_upto_region 1 with (first | ((with_reducible refine at_box_ ?_); refine wpList_box_mem rfl _ _ rfl _ rfl (show MemX noE w _ [] from hM) ?_; clear hM; intro gl W hM; simp only [List.nil_append] at hM) | ((with_reducible refine at_box_ ?_); refine wpList_box_mem rfl _ _ rfl _ rfl hM ?_; clear hM; intro gb W hM; simp only [List.cons_append, List.nil_append] at hM))
  replace hM : Mem w W [atR gl 41 (cEnd ⟨a2a, a2b⟩), atR gb 41 (cEnd ⟨a3a, a3b⟩)] := hM
  go_wp2_with fail
  refine (HB.out _ hM.b).mono ?_
  rintro x W1 ⟨g, v, l, rfl, hM6, hI⟩
  replace hM := hM.new_ hM6
  simp only [List.cons_append, List.nil_append] at hM
  clear hM6 HB
  dsimp only
  have hl := hI.len
  have HF := Lib.hid (fun W hA hR => Find_any g v l a1 ⟨a2a, a2b⟩ ⟨a3a, a3b⟩ n W hA hR hl hn)
  have HA := Lib.hid (fun W hA hR => All_any g v l W hA hR (by omega))
  have HL := Lib.hid (found_law hI a1 ⟨a2a, a2b⟩ ⟨a3a, a3b⟩ n)
  generalize pFind l a1 ⟨a2a, a2b⟩ ⟨a3a, a3b⟩ n = r at *
  obtain ⟨ow, is⟩ := r
  dsimp only at HF HL
  clear hI
  go_wp2_with (first
    | go_skip
    | (go_at_call 25; refine (HF.out _ (hM.at_ 0 rfl) (hM.toRd 1 rfl)).mono ?_; rintro x W ⟨rfl, hb⟩; replace hM := hM.kept hb; clear hb; dsimp only)
    | (go_at_call 28; refine (HA.out _ (hM.at_ 0 rfl) (hM.toRd 1 rfl)).mono ?_; rintro x W ⟨va, rfl, hM6⟩; replace hM := hM.join hM6; clear hM6; simp only [List.cons_append, List.nil_append] at hM; obtain ⟨A, cap, rfl⟩ := rdR_form (hM.get 4 rfl); dsimp only)
    | ((with_reducible refine at_box_ ?_); refine wpList_box_mem rfl _ _ rfl _ rfl hM ?_; clear hM; intro gb W hM; first | (simp only [List.nil_append] at hM) | (simp only [List.cons_append, List.nil_append] at hM))
    | ((with_reducible refine at_alloc_ (T := 41) ?_); refine wpList_alloc_mem rfl 41 rfl _ zv_End _ rfl hM ?_; clear hM; intro gb W hM; first | (simp only [List.nil_append] at hM) | (simp only [List.cons_append, List.nil_append] at hM))
    | ((with_reducible refine at_load_ (T := 41) ?_); refine at_wanted_ (by rfl) ?_; first | (refine wpList_loadg_mem (by go_simp) 41 _ rfl 0 _ _ _ hM rfl rfl _ Try.underlying41 rfl sz_End ?_) | (refine wpList_loadg_mem (by go_simp) 41 _ rfl 1 _ _ _ hM rfl rfl _ Try.underlying41 rfl sz_End ?_) | (refine wpList_loadg_mem (by go_simp) 41 _ rfl 2 _ _ _ hM rfl rfl _ Try.underlying41 rfl sz_End ?_) | (refine wpList_loadg_mem (by go_simp) 41 _ rfl 3 _ _ _ hM rfl rfl _ Try.underlying41 rfl sz_End ?_))
    | ((with_reducible refine at_store_ (T := 41) ?_); first | (refine wpList_store_mem rfl 41 _ _ rfl 0 _ _ _ _ hM rfl rfl rfl rfl sz_End rfl ?_; clear hM; intro W hM; simp only [List.set_cons_zero] at hM) | (refine wpList_store_mem rfl 41 _ _ rfl 1 _ _ _ _ hM rfl rfl rfl rfl sz_End rfl ?_; clear hM; intro W hM; simp only [List.set_cons_succ, List.set_cons_zero] at hM) | (refine wpList_store_mem rfl 41 _ _ rfl 2 _ _ _ _ hM rfl rfl rfl rfl sz_End rfl ?_; clear hM; intro W hM; simp only [List.set_cons_succ, List.set_cons_zero] at hM) | (refine wpList_store_mem rfl 41 _ _ rfl 3 _ _ _ _ hM rfl rfl rfl rfl sz_End rfl ?_; clear hM; intro W hM; simp only [List.set_cons_succ, List.set_cons_zero] at hM)))
  clear HF HA
  go_loopg [35, 14, 15] l.length (fun gh i fv jv wr => ∃ (k : Nat) (ft : Bool), gh = l.length - k ∧ k ≤ l.length ∧ i = .int .i64 k ∧ fv = .bool ft ∧ jv = .bool false ∧ Mem w wr [pA g v, pW v l, atR gl 41 (cEnd ⟨a2a, a2b⟩), atR gb 41 (cEnd ⟨a3a, a3b⟩), rdR 7 cBound (.slice A l.length cap) l] ∧ Hid (∀ j b, j < k → l[j]? = some b → pFit a1 ⟨a2a, a2b⟩ ⟨a3a, a3b⟩ ow b = true → ft = true))
  case atStart => exact ⟨0, false, by omega, by omega, rfl, rfl, rfl, hM, Lib.hid (fun j b h => absurd h (by omega))⟩
  case round =>
    clear hM
    obtain ⟨k, ft, hgk, hk, rfl, rfl, rfl, hM, HP⟩ := hrel
    have HGK := Lib.hid hgk
    clear hgk
    by_cases hlt : k < l.length
    · obtain ⟨b, hbb⟩ : ∃ b, l[k]? = some b := ⟨l[k], List.getElem?_eq_getElem hlt⟩
      have he : l[k] = b := Option.some.inj ((List.getElem?_eq_getElem hlt).symm.trans hbb)
      obtain ⟨gB, offB, rfl, hr0, _⟩ := rdR_range (size := 7) (f := cBound) (fun _ => rfl) (hM.get 4 rfl) k hlt
      rw [he] at hr0
      have HJ := Lib.hid (HL.out.2.2 b (List.mem_of_getElem? hbb))
      have HS := Lib.hid (fun (ft' : Bool) (h1 : ft = true → ft' = true) (h2 : pFit a1 ⟨a2a, a2b⟩ ⟨a3a, a3b⟩ ow b = true → ft' = true) => (Lib.hid (fun j d hj hd hfd => by
        by_cases hjk : j < k
        · exact h1 (HP.out j d hjk hd hfd)
        · have e : j = k := by omega
          subst e
          have := Option.some.inj (hd.symm.trans hbb)
          subst this
          exact h2 hfd) : Hid (∀ j d, j < k + 1 → l[j]? = some d → pFit a1 ⟨a2a, a2b⟩ ⟨a3a, a3b⟩ ow d = true → ft' = true)))
      clear he hbb
      go_upto_region 9 with         (first
          | go_skip
          | ((with_reducible refine at_load_ (T := 49) ?_); refine wpList_load_mid rfl 49 _ rfl gB (offB + k * 7) rfl (cBound b) _ hr0 Try.underlying49 rfl sz_Bound ?_)
          | ((with_reducible refine at_box_ ?_); refine wpList_box_mem rfl _ _ rfl _ rfl hM ?_; clear hM; intro gb W hM; first | (simp only [List.nil_append] at hM) | (simp only [List.cons_append, List.nil_append] at hM))
          | ((with_reducible refine at_alloc_ (T := 49) ?_); refine wpList_alloc_mem rfl 49 rfl _ zv_Bound _ rfl hM ?_; clear hM; intro gb W hM; first | (simp only [List.nil_append] at hM) | (simp only [List.cons_append, List.nil_append] at hM))
          | ((with_reducible refine at_load_ (T := 49) ?_); refine at_wanted_ (by rfl) ?_; first | (refine wpList_loadg_mem (by go_simp) 49 _ rfl 0 _ _ _ hM rfl rfl _ Try.underlying49 rfl sz_Bound ?_) | (refine wpList_loadg_mem (by go_simp) 49 _ rfl 1 _ _ _ hM rfl rfl _ Try.underlying49 rfl sz_Bound ?_) | (refine wpList_loadg_mem (by go_simp) 49 _ rfl 2 _ _ _ hM rfl rfl _ Try.underlying49 rfl sz_Bound ?_) | (refine wpList_loadg_mem (by go_simp) 49 _ rfl 3 _ _ _ hM rfl rfl _ Try.underlying49 rfl sz_Bound ?_) | (refine wpList_loadg_mem (by go_simp) 49 _ rfl 4 _ _ _ hM rfl rfl _ Try.underlying49 rfl sz_Bound ?_) | (refine wpList_loadg_mem (by go_simp) 49 _ rfl 5 _ _ _ hM rfl rfl _ Try.underlying49 rfl sz_Bound ?_))
          | ((with_reducible refine at_store_ (T := 49) ?_); first | (refine wpList_store_mem rfl 49 _ _ rfl 0 _ _ _ _ hM rfl rfl rfl rfl sz_Bound rfl ?_; clear hM; intro W hM; simp only [List.set_cons_zero] at hM) | (refine wpList_store_mem rfl 49 _ _ rfl 1 _ _ _ _ hM rfl rfl rfl rfl sz_Bound rfl ?_; clear hM; intro W hM; simp only [List.set_cons_succ, List.set_cons_zero] at hM) | (refine wpList_store_mem rfl 49 _ _ rfl 2 _ _ _ _ hM rfl rfl rfl rfl sz_Bound rfl ?_; clear hM; intro W hM; simp only [List.set_cons_succ, List.set_cons_zero] at hM) | (refine wpList_store_mem rfl 49 _ _ rfl 3 _ _ _ _ hM rfl rfl rfl rfl sz_Bound rfl ?_; clear hM; intro W hM; simp only [List.set_cons_succ, List.set_cons_zero] at hM) | (refine wpList_store_mem rfl 49 _ _ rfl 4 _ _ _ _ hM rfl rfl rfl rfl sz_Bound rfl ?_; clear hM; intro W hM; simp only [List.set_cons_succ, List.set_cons_zero] at hM) | (refine wpList_store_mem rfl 49 _ _ rfl 5 _ _ _ _ hM rfl rfl rfl rfl sz_Bound rfl ?_; clear hM; intro W hM; simp only [List.set_cons_succ, List.set_cons_zero] at hM)))
      have hcb := hM.cells 5 rfl
      have hlb := hM.lt 5 rfl
      have hcl := hM.cells 2 rfl
      have hll := hM.lt 2 rfl
      have hcm := hM.cells 3 rfl
      have hlm := hM.lt 3 rfl
      simp only [cBound, cEnd] at hcb hcl hcm
      clear hr0
      have hx1 : b.pr = a1 ∧ b.lp = a2b ∨ ¬ (b.pr = a1 ∧ b.lp = a2b) := Decidable.em _
      cases h0 : decide (b.pr = a1)
      · have e0 : (b.pr != a1) = true := by simpa using h0
        have HQ := Lib.hid (HS.out ft id (fun h => by unfold pFit at h; rw [h0] at h; cases h))
        clear h0 hx1
        go_wp2_with fail
        go_roundg (l.length - (k + 1))
        case measure => have := HGK.out; omega
        case rel => exact ⟨k + 1, ft, rfl, by omega, by go_num, rfl, rfl, hM.take_ 5, HQ⟩
      · have e0 : (b.pr != a1) = false := by simpa using h0
        have e0' : b.pr = a1 := by simpa using h0
        cases h1 : decide (b.lp = a2b)
        · have e1 : (b.lp != a2b) = true := by simpa using h1
          have HQ := Lib.hid (HS.out ft id (fun h => by unfold pFit at h; rw [h0, h1] at h; cases h))
          clear h0 h1 hx1 e0'
          go_wp2_with fail
          go_roundg (l.length - (k + 1))
          case measure => have := HGK.out; omega
          case rel => exact ⟨k + 1, ft, rfl, by omega, by go_num, rfl, rfl, hM.take_ 5, HQ⟩
        · have e1 : (b.lp != a2b) = false := by simpa using h1
          have e1' : b.lp = a2b := by simpa using h1
          have HFIT := Lib.hid (show pFit a1 ⟨a2a, a2b⟩ ⟨a3a, a3b⟩ ow b = (pMay ⟨a2a, a2b⟩ ⟨a3a, a3b⟩ b && decide (b.ow = ow)) by unfold pFit; rw [h0, h1]; rfl)
          have HJ1 := Lib.hid (fun h2 h3 h4 => HJ.out e0' h2 h3 h4)
          clear h0 h1 hx1 e0' e1'
          go_upto_region 10 with (fail)
          have hmay : pMay ⟨a2a, a2b⟩ ⟨a3a, a3b⟩ b = ((decide (b.la = 0) || decide (b.la = a2a)) && (decide (b.rp = 0) || decide (cR b = ⟨a3a, a3b⟩))) := rfl
          have HMY := Lib.hid hmay
          clear hmay
          go_cut [18] (fun m wc => m = .bool (pMay ⟨a2a, a2b⟩ ⟨a3a, a3b⟩ b) ∧ wc = W)
          case first =>
            cases h2 : decide (b.la = 0)
            · have e2 : (b.la == 0) = false := h2
              cases h3 : decide (b.la = a2a)
              · have e3 : (b.la == a2a) = false := h3
                repeat (first | go_skip | ((with_reducible refine at_load_ (T := 41) ?_); refine at_wanted_ (by rfl) ?_; first | (refine wpList_loads_mem (by rfl) _ _ rfl 5 _ 1 _ _ [.int .u32 b.la, .int .i64 b.lp] hM rfl rfl rfl _ Try.underlying41 rfl sz_End ?_) | (refine wpList_loads_mem (by rfl) _ _ rfl 5 _ 3 _ _ [.int .u32 b.ra, .int .i64 b.rp] hM rfl rfl rfl _ Try.underlying41 rfl sz_End ?_) | (refine wpList_loads_mem (by rfl) _ _ rfl 2 _ 0 _ _ [.int .u32 a2a, .int .i64 a2b] hM rfl rfl rfl _ Try.underlying41 rfl sz_End ?_) | (refine wpList_loads_mem (by rfl) _ _ rfl 3 _ 0 _ _ [.int .u32 a3a, .int .i64 a3b] hM rfl rfl rfl _ Try.underlying41 rfl sz_End ?_)) | go_guarded | go_step)
                go_meet
                case rel => exact ⟨by rw [HMY.out]; rw [h2, h3]; rfl, rfl⟩
              · have e3 : (b.la == a2a) = true := h3
                cases h4 : decide (b.rp = 0)
                · have e4 : (b.rp == 0) = false := h4
                  cases h5 : decide (cR b = ⟨a3a, a3b⟩)
                  · have h5' := h5
                    repeat (first | go_skip | ((with_reducible refine at_load_ (T := 41) ?_); refine at_wanted_ (by rfl) ?_; first | (refine wpList_loads_mem (by rfl) _ _ rfl 5 _ 1 _ _ [.int .u32 b.la, .int .i64 b.lp] hM rfl rfl rfl _ Try.underlying41 rfl sz_End ?_) | (refine wpList_loads_mem (by rfl) _ _ rfl 5 _ 3 _ _ [.int .u32 b.ra, .int .i64 b.rp] hM rfl rfl rfl _ Try.underlying41 rfl sz_End ?_) | (refine wpList_loads_mem (by rfl) _ _ rfl 2 _ 0 _ _ [.int .u32 a2a, .int .i64 a2b] hM rfl rfl rfl _ Try.underlying41 rfl sz_End ?_) | (refine wpList_loads_mem (by rfl) _ _ rfl 3 _ 0 _ _ [.int .u32 a3a, .int .i64 a3b] hM rfl rfl rfl _ Try.underlying41 rfl sz_End ?_)) | ((with_reducible refine at_eq_ (T := 41) ?_); first | (refine wpList_eq_mem (by rfl) _ _ _ _ rfl _ _ rfl rfl eg_End false (fun W => eqx_End (cR b) ⟨a3a, a3b⟩ false h5' W) ?_)) | go_guarded | go_step)
                    go_meet
                    case rel => exact ⟨by rw [HMY.out]; rw [h2, h3, h4, h5]; rfl, rfl⟩
                  · have h5' := h5
                    repeat (first | go_skip | ((with_reducible refine at_load_ (T := 41) ?_); refine at_wanted_ (by rfl) ?_; first | (refine wpList_loads_mem (by rfl) _ _ rfl 5 _ 1 _ _ [.int .u32 b.la, .int .i64 b.lp] hM rfl rfl rfl _ Try.underlying41 rfl sz_End ?_) | (refine wpList_loads_mem (by rfl) _ _ rfl 5 _ 3 _ _ [.int .u32 b.ra, .int .i64 b.rp] hM rfl rfl rfl _ Try.underlying41 rfl sz_End ?_) | (refine wpList_loads_mem (by rfl) _ _ rfl 2 _ 0 _ _ [.int .u32 a2a, .int .i64 a2b] hM rfl rfl rfl _ Try.underlying41 rfl sz_End ?_) | (refine wpList_loads_mem (by rfl) _ _ rfl 3 _ 0 _ _ [.int .u32 a3a, .int .i64 a3b] hM rfl rfl rfl _ Try.underlying41 rfl sz_End ?_)) | ((with_reducible refine at_eq_ (T := 41) ?_); first | (refine wpList_eq_mem (by rfl) _ _ _ _ rfl _ _ rfl rfl eg_End true (fun W => eqx_End (cR b) ⟨a3a, a3b⟩ true h5' W) ?_)) | go_guarded | go_step)
                    go_meet
                    case rel => exact ⟨by rw [HMY.out]; rw [h2, h3, h4, h5]; rfl, rfl⟩
                · have e4 : (b.rp == 0) = true := h4
                  repeat (first | go_skip | ((with_reducible refine at_load_ (T := 41) ?_); refine at_wanted_ (by rfl) ?_; first | (refine wpList_loads_mem (by rfl) _ _ rfl 5 _ 1 _ _ [.int .u32 b.la, .int .i64 b.lp] hM rfl rfl rfl _ Try.underlying41 rfl sz_End ?_) | (refine wpList_loads_mem (by rfl) _ _ rfl 5 _ 3 _ _ [.int .u32 b.ra, .int .i64 b.rp] hM rfl rfl rfl _ Try.underlying41 rfl sz_End ?_) | (refine wpList_loads_mem (by rfl) _ _ rfl 2 _ 0 _ _ [.int .u32 a2a, .int .i64 a2b] hM rfl rfl rfl _ Try.underlying41 rfl sz_End ?_) | (refine wpList_loads_mem (by rfl) _ _ rfl 3 _ 0 _ _ [.int .u32 a3a, .int .i64 a3b] hM rfl rfl rfl _ Try.underlying41 rfl sz_End ?_)) | go_guarded | go_step)
                  go_meet
                  case rel => exact ⟨by rw [HMY.out]; rw [h2, h3, h4]; rfl, rfl⟩
            · have e2 : (b.la == 0) = true := h2
              cases h4 : decide (b.rp = 0)
              · have e4 : (b.rp == 0) = false := h4
                cases h5 : decide (cR b = ⟨a3a, a3b⟩)
                · have h5' := h5
                  repeat (first | go_skip | ((with_reducible refine at_load_ (T := 41) ?_); refine at_wanted_ (by rfl) ?_; first | (refine wpList_loads_mem (by rfl) _ _ rfl 5 _ 1 _ _ [.int .u32 b.la, .int .i64 b.lp] hM rfl rfl rfl _ Try.underlying41 rfl sz_End ?_) | (refine wpList_loads_mem (by rfl) _ _ rfl 5 _ 3 _ _ [.int .u32 b.ra, .int .i64 b.rp] hM rfl rfl rfl _ Try.underlying41 rfl sz_End ?_) | (refine wpList_loads_mem (by rfl) _ _ rfl 2 _ 0 _ _ [.int .u32 a2a, .int .i64 a2b] hM rfl rfl rfl _ Try.underlying41 rfl sz_End ?_) | (refine wpList_loads_mem (by rfl) _ _ rfl 3 _ 0 _ _ [.int .u32 a3a, .int .i64 a3b] hM rfl rfl rfl _ Try.underlying41 rfl sz_End ?_)) | ((with_reducible refine at_eq_ (T := 41) ?_); first | (refine wpList_eq_mem (by rfl) _ _ _ _ rfl _ _ rfl rfl eg_End false (fun W => eqx_End (cR b) ⟨a3a, a3b⟩ false h5' W) ?_)) | go_guarded | go_step)
                  go_meet
                  case rel => exact ⟨by rw [HMY.out]; rw [h2, h4, h5]; rfl, rfl⟩
                · have h5' := h5
                  repeat (first | go_skip | ((with_reducible refine at_load_ (T := 41) ?_); refine at_wanted_ (by rfl) ?_; first | (refine wpList_loads_mem (by rfl) _ _ rfl 5 _ 1 _ _ [.int .u32 b.la, .int .i64 b.lp] hM rfl rfl rfl _ Try.underlying41 rfl sz_End ?_) | (refine wpList_loads_mem (by rfl) _ _ rfl 5 _ 3 _ _ [.int .u32 b.ra, .int .i64 b.rp] hM rfl rfl rfl _ Try.underlying41 rfl sz_End ?_) | (refine wpList_loads_mem (by rfl) _ _ rfl 2 _ 0 _ _ [.int .u32 a2a, .int .i64 a2b] hM rfl rfl rfl _ Try.underlying41 rfl sz_End ?_) | (refine wpList_loads_mem (by rfl) _ _ rfl 3 _ 0 _ _ [.int .u32 a3a, .int .i64 a3b] hM rfl rfl rfl _ Try.underlying41 rfl sz_End ?_)) | ((with_reducible refine at_eq_ (T := 41) ?_); first | (refine wpList_eq_mem (by rfl) _ _ _ _ rfl _ _ rfl rfl eg_End true (fun W => eqx_End (cR b) ⟨a3a, a3b⟩ true h5' W) ?_)) | go_guarded | go_step)
                  go_meet
                  case rel => exact ⟨by rw [HMY.out]; rw [h2, h4, h5]; rfl, rfl⟩
              · have e4 : (b.rp == 0) = true := h4
                repeat (first | go_skip | ((with_reducible refine at_load_ (T := 41) ?_); refine at_wanted_ (by rfl) ?_; first | (refine wpList_loads_mem (by rfl) _ _ rfl 5 _ 1 _ _ [.int .u32 b.la, .int .i64 b.lp] hM rfl rfl rfl _ Try.underlying41 rfl sz_End ?_) | (refine wpList_loads_mem (by rfl) _ _ rfl 5 _ 3 _ _ [.int .u32 b.ra, .int .i64 b.rp] hM rfl rfl rfl _ Try.underlying41 rfl sz_End ?_) | (refine wpList_loads_mem (by rfl) _ _ rfl 2 _ 0 _ _ [.int .u32 a2a, .int .i64 a2b] hM rfl rfl rfl _ Try.underlying41 rfl sz_End ?_) | (refine wpList_loads_mem (by rfl) _ _ rfl 3 _ 0 _ _ [.int .u32 a3a, .int .i64 a3b] hM rfl rfl rfl _ Try.underlying41 rfl sz_End ?_)) | go_guarded | go_step)
                go_meet
                case rel => exact ⟨by rw [HMY.out]; rw [h2, h4]; rfl, rfl⟩
          case rest =>
            obtain ⟨rfl, hwc⟩ := hcut
            have hwc' := hwc.symm
            clear hwc
            subst hwc'
            clear HMY
            generalize pMay ⟨a2a, a2b⟩ ⟨a3a, a3b⟩ b = my at *
            go_upto_region 11 with (fail)
            go_cut [14] (fun f2 wc => ∃ ft2 : Bool, f2 = .bool ft2 ∧ wc = W ∧ Hid (ft = true → ft2 = true) ∧ Hid ((my && decide (b.ow = ow)) = true → ft2 = true))
            case first =>
              cases ft
              · cases my
                · go_wp2_with fail
                  go_meet
                  case rel => exact ⟨false, rfl, rfl, Lib.hid id, Lib.hid (fun h => by cases h)⟩
                · cases h6 : decide (b.ow = ow)
                  · have e6 : (b.ow == ow) = false := h6
                    go_wp2_with fail
                    go_meet
                    case rel => exact ⟨false, rfl, rfl, Lib.hid id, Lib.hid (fun h => by rw [h6] at h; cases h)⟩
                  · have e6 : (b.ow == ow) = true := h6
                    go_wp2_with fail
                    go_meet
                    case rel => exact ⟨true, rfl, rfl, Lib.hid (fun _ => rfl), Lib.hid (fun _ => rfl)⟩
              · go_wp2_with fail
                go_meet
                case rel => exact ⟨true, rfl, rfl, Lib.hid (fun _ => rfl), Lib.hid (fun _ => rfl)⟩
            case rest =>
              obtain ⟨ft2, rfl, hwc, H1, H2⟩ := hcut
              have hwc' := hwc.symm
              clear hwc
              subst hwc'
              have HQ := Lib.hid (HS.out ft2 H1.out (fun h => H2.out (by rw [← HFIT.out]; exact h)))
              clear H1 H2 HFIT HS HP
              cases h7 : decide (cL b = ⟨a2a, a2b⟩)
              · have h7' := h7
                repeat (first | go_skip | ((with_reducible refine at_load_ (T := 41) ?_); refine at_wanted_ (by rfl) ?_; first | (refine wpList_loads_mem (by rfl) _ _ rfl 5 _ 1 _ _ [.int .u32 b.la, .int .i64 b.lp] hM rfl rfl rfl _ Try.underlying41 rfl sz_End ?_) | (refine wpList_loads_mem (by rfl) _ _ rfl 5 _ 3 _ _ [.int .u32 b.ra, .int .i64 b.rp] hM rfl rfl rfl _ Try.underlying41 rfl sz_End ?_) | (refine wpList_loads_mem (by rfl) _ _ rfl 2 _ 0 _ _ [.int .u32 a2a, .int .i64 a2b] hM rfl rfl rfl _ Try.underlying41 rfl sz_End ?_) | (refine wpList_loads_mem (by rfl) _ _ rfl 3 _ 0 _ _ [.int .u32 a3a, .int .i64 a3b] hM rfl rfl rfl _ Try.underlying41 rfl sz_End ?_)) | ((with_reducible refine at_eq_ (T := 41) ?_); first | (refine wpList_eq_mem (by rfl) _ _ _ _ rfl _ _ rfl rfl eg_End false (fun W => eqx_End (cL b) ⟨a2a, a2b⟩ false h7' W) ?_)) | go_guarded | go_step)
                go_roundg (l.length - (k + 1))
                case measure => have := HGK.out; omega
                case rel => exact ⟨k + 1, ft2, rfl, by omega, by go_num, rfl, rfl, hM.take_ 5, HQ⟩
              · have h7' := h7
                cases h8 : decide (cR b = ⟨a3a, a3b⟩)
                · have h8' := h8
                  repeat (first | go_skip | ((with_reducible refine at_load_ (T := 41) ?_); refine at_wanted_ (by rfl) ?_; first | (refine wpList_loads_mem (by rfl) _ _ rfl 5 _ 1 _ _ [.int .u32 b.la, .int .i64 b.lp] hM rfl rfl rfl _ Try.underlying41 rfl sz_End ?_) | (refine wpList_loads_mem (by rfl) _ _ rfl 5 _ 3 _ _ [.int .u32 b.ra, .int .i64 b.rp] hM rfl rfl rfl _ Try.underlying41 rfl sz_End ?_) | (refine wpList_loads_mem (by rfl) _ _ rfl 2 _ 0 _ _ [.int .u32 a2a, .int .i64 a2b] hM rfl rfl rfl _ Try.underlying41 rfl sz_End ?_) | (refine wpList_loads_mem (by rfl) _ _ rfl 3 _ 0 _ _ [.int .u32 a3a, .int .i64 a3b] hM rfl rfl rfl _ Try.underlying41 rfl sz_End ?_)) | ((with_reducible refine at_eq_ (T := 41) ?_); first | (refine wpList_eq_mem (by rfl) _ _ _ _ rfl _ _ rfl rfl eg_End true (fun W => eqx_End (cL b) ⟨a2a, a2b⟩ true h7' W) ?_) | (refine wpList_eq_mem (by rfl) _ _ _ _ rfl _ _ rfl rfl eg_End false (fun W => eqx_End (cR b) ⟨a3a, a3b⟩ false h8' W) ?_)) | go_guarded | go_step)
                  go_roundg (l.length - (k + 1))
                  case measure => have := HGK.out; omega
                  case rel => exact ⟨k + 1, ft2, rfl, by omega, by go_num, rfl, rfl, hM.take_ 5, HQ⟩
                · have h8' := h8
                  cases h9 : decide (b.rp = 0)
                  · have e9 : (b.rp != 0) = true := by simpa using h9
                    have e10 : (b.ow != ow) = false := by
                      have := HJ1.out (by simpa using h7) (by simpa using h8) (by simpa using h9)
                      simpa using this
                    clear h9
                    repeat (first | go_skip | ((with_reducible refine at_load_ (T := 41) ?_); refine at_wanted_ (by rfl) ?_; first | (refine wpList_loads_mem (by rfl) _ _ rfl 5 _ 1 _ _ [.int .u32 b.la, .int .i64 b.lp] hM rfl rfl rfl _ Try.underlying41 rfl sz_End ?_) | (refine wpList_loads_mem (by rfl) _ _ rfl 5 _ 3 _ _ [.int .u32 b.ra, .int .i64 b.rp] hM rfl rfl rfl _ Try.underlying41 rfl sz_End ?_) | (refine wpList_loads_mem (by rfl) _ _ rfl 2 _ 0 _ _ [.int .u32 a2a, .int .i64 a2b] hM rfl rfl rfl _ Try.underlying41 rfl sz_End ?_) | (refine wpList_loads_mem (by rfl) _ _ rfl 3 _ 0 _ _ [.int .u32 a3a, .int .i64 a3b] hM rfl rfl rfl _ Try.underlying41 rfl sz_End ?_)) | ((with_reducible refine at_eq_ (T := 41) ?_); first | (refine wpList_eq_mem (by rfl) _ _ _ _ rfl _ _ rfl rfl eg_End true (fun W => eqx_End (cL b) ⟨a2a, a2b⟩ true h7' W) ?_) | (refine wpList_eq_mem (by rfl) _ _ _ _ rfl _ _ rfl rfl eg_End true (fun W => eqx_End (cR b) ⟨a3a, a3b⟩ true h8' W) ?_)) | go_guarded | go_step)
                    go_roundg (l.length - (k + 1))
                    case measure => have := HGK.out; omega
                    case rel => exact ⟨k + 1, ft2, rfl, by omega, by go_num, rfl, rfl, hM.take_ 5, HQ⟩
                  · have e9 : (b.rp != 0) = false := by simpa using h9
                    clear h9
                    repeat (first | go_skip | ((with_reducible refine at_load_ (T := 41) ?_); refine at_wanted_ (by rfl) ?_; first | (refine wpList_loads_mem (by rfl) _ _ rfl 5 _ 1 _ _ [.int .u32 b.la, .int .i64 b.lp] hM rfl rfl rfl _ Try.underlying41 rfl sz_End ?_) | (refine wpList_loads_mem (by rfl) _ _ rfl 5 _ 3 _ _ [.int .u32 b.ra, .int .i64 b.rp] hM rfl rfl rfl _ Try.underlying41 rfl sz_End ?_) | (refine wpList_loads_mem (by rfl) _ _ rfl 2 _ 0 _ _ [.int .u32 a2a, .int .i64 a2b] hM rfl rfl rfl _ Try.underlying41 rfl sz_End ?_) | (refine wpList_loads_mem (by rfl) _ _ rfl 3 _ 0 _ _ [.int .u32 a3a, .int .i64 a3b] hM rfl rfl rfl _ Try.underlying41 rfl sz_End ?_)) | ((with_reducible refine at_eq_ (T := 41) ?_); first | (refine wpList_eq_mem (by rfl) _ _ _ _ rfl _ _ rfl rfl eg_End true (fun W => eqx_End (cL b) ⟨a2a, a2b⟩ true h7' W) ?_) | (refine wpList_eq_mem (by rfl) _ _ _ _ rfl _ _ rfl rfl eg_End true (fun W => eqx_End (cR b) ⟨a3a, a3b⟩ true h8' W) ?_)) | go_guarded | go_step)
                    go_roundg (l.length - (k + 1))
                    case measure => have := HGK.out; omega
                    case rel => exact ⟨k + 1, ft2, rfl, by omega, by go_num, rfl, rfl, hM.take_ 5, HQ⟩
    · cases is
      · obtain rfl : ow = 0 := HL.out.1 rfl
        go_wp2_with fail
        go_ret
        exact ⟨rfl, hM.b⟩
      · obtain ⟨b, hb, hf⟩ := HL.out.2.1 rfl
        obtain ⟨j, hj⟩ := List.getElem?_of_mem hb
        have hjl := (List.getElem?_eq_some_iff.1 hj).1
        obtain rfl : ft = true := HP.out j b (by omega) hj hf
        clear hb hf hj
        go_wp2_with fail
        go_ret
        exact ⟨rfl, hM.b⟩
end Go.Proofs.Ytalfdbhpaonfjaa
