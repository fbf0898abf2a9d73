/- The walk of PortsApart: it returns true. Written by my genpa.py. -/
import Derived.Test.YtalfdbhpaonfjaaBndL
import Derived.Test.YtalfdbhpaonfjaaBndO
import Derived.Test.YtalfdbhpaonfjaaBndR
import Derived.Deep.CutBlock
namespace Go.Proofs.Ytalfdbhpaonfjaa
open Go.RowKit Go.Lib
set_option linter.unusedVariables false
set_option linter.unusedSimpArgs false

set_option maxRecDepth 100000 in
set_option maxHeartbeats 16000000 in
theorem w_PortsApart (A0 : Option Addr) (n0 c0 : Nat) (css0 : Nat → List Value) (a1a : Int) (a1b : Int) (a1c : Int) (a1d : Int) (a1e : Int) (b1f : Bool) (a1g : Int) (a2 : Int) (w : World) (hR0 : Rows_ w A0 n0 ksStep css0) (hl0 : n0 ≤ 140737488351232) (ha1a : -9223372036854775808 ≤ a1a) (ha1a' : a1a ≤ 9223372036854775807) (ha1b : 0 ≤ a1b) (ha1b' : a1b ≤ 4294967295) (ha1c : -9223372036854775808 ≤ a1c) (ha1c' : a1c ≤ 9223372036854775807) (ha1d : 0 ≤ a1d) (ha1d' : a1d ≤ 4294967295) (ha1e : -9223372036854775808 ≤ a1e) (ha1e' : a1e ≤ 9223372036854775807) (ha1g : -9223372036854775808 ≤ a1g) (ha1g' : a1g ≤ 9223372036854775807) (ha2 : -9223372036854775808 ≤ a2) (ha2' : a2 ≤ 9223372036854775807) :
    Calls Try.prog 9 #[.slice A0 n0 c0, .agg #[.int .i64 a1a, .int .u32 a1b, .int .i64 a1c, .int .u32 a1d, .int .i64 a1e, .bool b1f, .int .i64 a1g], .int .i64 a2] w fun e w' => e = .returned (.bool true) ∧ Below w.heap.size w w' := by
  have hb : BndOk ⟨a1a, a1b, a1c, a1d, a1e, b1f, a1g⟩ := ⟨⟨ha1a, ha1a'⟩, ⟨ha1b, ha1b'⟩, ⟨ha1c, ha1c'⟩, ⟨ha1d, ha1d'⟩, ⟨ha1e, ha1e'⟩, ⟨ha1g, ha1g'⟩⟩
  have HB := Lib.hid (fun W hB => bound_any A0 n0 c0 css0 W (hR0.kept_ hB) hl0)
  have hM := Mem.nil w
  clear hR0
  go_enter Try.func9, Try.ntmps9
  go_upto_region 1 with         (first
          | go_skip
          | ((with_reducible refine at_box_ ?_); refine wpList_box_mem rfl _ _ rfl _ rfl hM ?_; clear hM; intro gb W hM; first | (simp only [List.nil_append] at hM) | (simp only [List.cons_append, List.nil_append] at hM)))
  replace hM : Mem w W [atR gb 49 (cBound ⟨a1a, a1b, a1c, a1d, a1e, b1f, a1g⟩)] := hM
  obtain ⟨gp, hgp⟩ : ∃ x, x = gb := ⟨_, rfl⟩
  subst hgp
  go_wp2_with fail
  refine (HB.out _ hM.b).mono ?_
  rintro x W1 ⟨g, v, l, rfl, hM6, hI⟩
  replace hM := hM.new_ hM6
  simp only [List.cons_append, List.nil_append] at hM
  clear hM6 HB
  dsimp only
  have HPK := Lib.hid (fun W h => Pick_any g v l ⟨a1a, a1b, a1c, a1d, a1e, b1f, a1g⟩ a2 W h hI ha2 ha2')
  go_upto_region 5 with         (first
          | go_skip
          | (go_at_call 27; refine (HPK.out _ (p_hand _ hM)).mono ?_; rintro x W ⟨pp, pe, v2, l2, rfl, hM6, hpr⟩; replace hM := p_put _ hM hM6; clear hM6; dsimp only)
          | ((with_reducible refine at_box_ ?_); refine wpList_box_mem rfl _ _ rfl _ rfl hM ?_; clear hM; intro gb W hM; first | (simp only [List.nil_append] at hM) | (simp only [List.cons_append, List.nil_append] at hM))
          | ((with_reducible refine at_alloc_ (T := 49) ?_); refine wpList_alloc_mem rfl 49 rfl _ zv_Bound _ rfl hM ?_; clear hM; intro gb W hM; first | (simp only [List.nil_append] at hM) | (simp only [List.cons_append, List.nil_append] at hM))
          | ((with_reducible refine at_load_ (T := 49) ?_); refine at_wanted_ (by rfl) ?_; first | (refine wpList_loadg_mem (by go_simp) 49 _ rfl 0 _ _ _ hM rfl rfl _ Try.underlying49 rfl sz_Bound ?_) | (refine wpList_loadg_mem (by go_simp) 49 _ rfl 1 _ _ _ hM rfl rfl _ Try.underlying49 rfl sz_Bound ?_) | (refine wpList_loadg_mem (by go_simp) 49 _ rfl 2 _ _ _ hM rfl rfl _ Try.underlying49 rfl sz_Bound ?_))
          | ((with_reducible refine at_store_ (T := 49) ?_); first | (refine wpList_store_mem rfl 49 _ _ rfl 0 _ _ _ _ hM rfl rfl rfl rfl sz_Bound rfl ?_; clear hM; intro W hM; simp only [List.set_cons_zero] at hM) | (refine wpList_store_mem rfl 49 _ _ rfl 1 _ _ _ _ hM rfl rfl rfl rfl sz_Bound rfl ?_; clear hM; intro W hM; simp only [List.set_cons_succ, List.set_cons_zero] at hM) | (refine wpList_store_mem rfl 49 _ _ rfl 2 _ _ _ _ hM rfl rfl rfl rfl sz_Bound rfl ?_; clear hM; intro W hM; simp only [List.set_cons_succ, List.set_cons_zero] at hM)))
  have hI2 := binv_pick hI hb hpr
  have hl2 := hI2.len
  have HI2 := Lib.hid hI2
  have HA := Lib.hid (fun W hA hR => All_any g v2 l2 W hA hR (by omega))
  have hend : (pe ≠ 0 ∧ pp = 0) ∨ (pe = 0 ∧ 49152 ≤ pp ∧ pp < 49216 ∧ ∃ (m0 : Nat) (bb : KBound), l2.length = m0 + 1 ∧ l2[m0]? = some bb ∧ bb.lp = pp) := by
    rcases hpr with ⟨h1, h2, _⟩ | ⟨h1, h2, h3, h4, _⟩
    · exact .inl ⟨h1, h2⟩
    · refine .inr ⟨h1, h2, h3, l.length, { (show KBound from ⟨a1a, a1b, a1c, a1d, a1e, b1f, a1g⟩) with lp := pp }, ?_, ?_, rfl⟩
      · rw [h4, List.length_append]; rfl
      · rw [h4, List.getElem?_append_right (Nat.le_refl _), Nat.sub_self]; rfl
  clear hpr hI2 hI hb HPK
  have HAP := Lib.hid (fun (k m : Nat) (a c : KBound) (hk : l2[k]? = some a) (hm : l2[m]? = some c) (h : m < k) => show pClash a c = false by
    obtain ⟨h1, rfl⟩ := List.getElem?_eq_some_iff.1 hk
    obtain ⟨h2, rfl⟩ := List.getElem?_eq_some_iff.1 hm
    rw [pClash_symm]
    exact List.pairwise_iff_getElem.1 HI2.out.ap m k h2 h1 h)
  rcases hend with ⟨he1, rfl⟩ | ⟨rfl, hp1, hp2, m0, bb, hlen, hbb, hbp⟩

  · have e1 : (pe == 0) = false := by simpa using he1
    have e2 : (pe != 0) = true := by simpa using he1
    clear he1
    go_wp2_with (first
      | go_skip
      | (go_at_call 28; refine (HA.out _ (hM.at_ 0 rfl) (hM.toRd 1 rfl)).mono ?_; rintro x W ⟨va, rfl, hM6⟩; replace hM := hM.join hM6; clear hM6; simp only [List.cons_append, List.nil_append] at hM; obtain ⟨A, cap, rfl⟩ := rdR_form (hM.get 3 rfl); dsimp only)
      | ((with_reducible refine at_box_ ?_); refine wpList_box_mem rfl _ _ rfl _ rfl hM ?_; clear hM; intro gb W hM; first | (simp only [List.nil_append] at hM) | (simp only [List.cons_append, List.nil_append] at hM)))
    go_loopg [48] l2.length (fun gh i wr => ∃ (k : Nat), gh = l2.length - k ∧ k ≤ l2.length ∧ i = .int .i64 k ∧ Mem w wr [pA g v2, pW v2 l2, atR gp 49 (cBound ⟨a1a, a1b, a1c, a1d, a1e, b1f, a1g⟩), rdR 7 cBound (.slice A l2.length cap) l2])
    case atStart => exact ⟨0, by omega, by omega, rfl, hM⟩
    case round =>
      clear hM
      obtain ⟨k, hgk, hk, rfl, hM⟩ := hrel
      have HGK := Lib.hid hgk
      clear hgk
      by_cases hlt : k < l2.length
      · obtain ⟨a, haa⟩ : ∃ b, l2[k]? = some b := ⟨l2[k], List.getElem?_eq_getElem hlt⟩
        have he : l2[k] = a := Option.some.inj ((List.getElem?_eq_getElem hlt).symm.trans haa)
        obtain ⟨gB, offB, rfl, hr0, _⟩ := rdR_range (size := 7) (f := cBound) (fun _ => rfl) (hM.get 3 rfl) k hlt
        have hcap : l2.length ≤ cap := rdR_cap (hM.get 3 rfl) (by omega)
        rw [he] at hr0
        have HAA := Lib.hid haa
        clear he haa
        go_upto_region 11 with         (first
          | go_skip
          | ((with_reducible refine at_load_ (T := 49) ?_); refine wpList_load_mid rfl 49 _ rfl gB (offB + k * 7) rfl (cBound a) _ hr0 Try.underlying49 rfl sz_Bound ?_)
          | ((with_reducible refine at_box_ ?_); refine wpList_box_mem rfl _ _ rfl _ rfl hM ?_; clear hM; intro gb W hM; first | (simp only [List.nil_append] at hM) | (simp only [List.cons_append, List.nil_append] at hM))
          | ((with_reducible refine at_alloc_ (T := 49) ?_); refine wpList_alloc_mem rfl 49 rfl _ zv_Bound _ rfl hM ?_; clear hM; intro gb W hM; first | (simp only [List.nil_append] at hM) | (simp only [List.cons_append, List.nil_append] at hM))
          | ((with_reducible refine at_load_ (T := 49) ?_); refine at_wanted_ (by rfl) ?_; first | (refine wpList_loadg_mem (by go_simp) 49 _ rfl 0 _ _ _ hM rfl rfl _ Try.underlying49 rfl sz_Bound ?_) | (refine wpList_loadg_mem (by go_simp) 49 _ rfl 1 _ _ _ hM rfl rfl _ Try.underlying49 rfl sz_Bound ?_) | (refine wpList_loadg_mem (by go_simp) 49 _ rfl 2 _ _ _ hM rfl rfl _ Try.underlying49 rfl sz_Bound ?_) | (refine wpList_loadg_mem (by go_simp) 49 _ rfl 3 _ _ _ hM rfl rfl _ Try.underlying49 rfl sz_Bound ?_) | (refine wpList_loadg_mem (by go_simp) 49 _ rfl 4 _ _ _ hM rfl rfl _ Try.underlying49 rfl sz_Bound ?_))
          | ((with_reducible refine at_store_ (T := 49) ?_); first | (refine wpList_store_mem rfl 49 _ _ rfl 0 _ _ _ _ hM rfl rfl rfl rfl sz_Bound rfl ?_; clear hM; intro W hM; simp only [List.set_cons_zero] at hM) | (refine wpList_store_mem rfl 49 _ _ rfl 1 _ _ _ _ hM rfl rfl rfl rfl sz_Bound rfl ?_; clear hM; intro W hM; simp only [List.set_cons_succ, List.set_cons_zero] at hM) | (refine wpList_store_mem rfl 49 _ _ rfl 2 _ _ _ _ hM rfl rfl rfl rfl sz_Bound rfl ?_; clear hM; intro W hM; simp only [List.set_cons_succ, List.set_cons_zero] at hM) | (refine wpList_store_mem rfl 49 _ _ rfl 3 _ _ _ _ hM rfl rfl rfl rfl sz_Bound rfl ?_; clear hM; intro W hM; simp only [List.set_cons_succ, List.set_cons_zero] at hM) | (refine wpList_store_mem rfl 49 _ _ rfl 4 _ _ _ _ hM rfl rfl rfl rfl sz_Bound rfl ?_; clear hM; intro W hM; simp only [List.set_cons_succ, List.set_cons_zero] at hM)))
        clear hr0
        go_wp2_with fail
        go_loopg [57] k (fun gh j wr => ∃ (m : Nat), gh = k - m ∧ m ≤ k ∧ j = .int .i64 m ∧ Mem w wr [pA g v2, pW v2 l2, atR gp 49 (cBound ⟨a1a, a1b, a1c, a1d, a1e, b1f, a1g⟩), rdR 7 cBound (.slice (some ⟨gB, offB, none⟩) l2.length cap) l2, atR gb 49 (cBound a)])
        case atStart => exact ⟨0, by omega, by omega, rfl, hM⟩
        case round =>
          clear hM
          obtain ⟨m, hgm, hm, rfl, hM⟩ := hrel
          have HGM := Lib.hid hgm
          clear hgm
          by_cases hltm : m < k
          · obtain ⟨c, hcc⟩ : ∃ b, l2[m]? = some b := ⟨l2[m], List.getElem?_eq_getElem (by omega)⟩
            have hec : l2[m]'(by omega) = c := Option.some.inj ((List.getElem?_eq_getElem (by omega)).symm.trans hcc)
            obtain ⟨gB', offB', hv', hr0, _⟩ := rdR_range (size := 7) (f := cBound) (fun _ => rfl) (hM.get 3 rfl) m (by omega)
            injection hv' with hv'
            injection hv' with hv1 hv2 _
            subst hv1 hv2
            rw [hec] at hr0
            have HKC := Lib.hid (fun W => kclash_any a c W)
            rw [HAP.out k m a c HAA.out hcc hltm] at HKC
            clear hec hcc
            go_wp2_with         (first
          | go_skip
          | (go_at_call 29; go_must (refine (HKC.out _).mono ?_; rintro e W ⟨rfl, hb⟩; replace hM := hM.kept hb; clear hb))
          | ((with_reducible refine at_load_ (T := 49) ?_); refine wpList_load_mid rfl 49 _ rfl gB (offB + m * 7) rfl (cBound c) _ hr0 Try.underlying49 rfl sz_Bound ?_)
          | ((with_reducible refine at_box_ ?_); refine wpList_box_mem rfl _ _ rfl _ rfl hM ?_; clear hM; intro gb W hM; first | (simp only [List.nil_append] at hM) | (simp only [List.cons_append, List.nil_append] at hM))
          | ((with_reducible refine at_alloc_ (T := 49) ?_); refine wpList_alloc_mem rfl 49 rfl _ zv_Bound _ rfl hM ?_; clear hM; intro gb W hM; first | (simp only [List.nil_append] at hM) | (simp only [List.cons_append, List.nil_append] at hM))
          | ((with_reducible refine at_load_ (T := 49) ?_); refine at_wanted_ (by rfl) ?_; first | (refine wpList_loadg_mem (by go_simp) 49 _ rfl 0 _ _ _ hM rfl rfl _ Try.underlying49 rfl sz_Bound ?_) | (refine wpList_loadg_mem (by go_simp) 49 _ rfl 1 _ _ _ hM rfl rfl _ Try.underlying49 rfl sz_Bound ?_) | (refine wpList_loadg_mem (by go_simp) 49 _ rfl 2 _ _ _ hM rfl rfl _ Try.underlying49 rfl sz_Bound ?_) | (refine wpList_loadg_mem (by go_simp) 49 _ rfl 3 _ _ _ hM rfl rfl _ Try.underlying49 rfl sz_Bound ?_) | (refine wpList_loadg_mem (by go_simp) 49 _ rfl 4 _ _ _ hM rfl rfl _ Try.underlying49 rfl sz_Bound ?_) | (refine wpList_loadg_mem (by go_simp) 49 _ rfl 5 _ _ _ hM rfl rfl _ Try.underlying49 rfl sz_Bound ?_))
          | ((with_reducible refine at_store_ (T := 49) ?_); first | (refine wpList_store_mem rfl 49 _ _ rfl 0 _ _ _ _ hM rfl rfl rfl rfl sz_Bound rfl ?_; clear hM; intro W hM; simp only [List.set_cons_zero] at hM) | (refine wpList_store_mem rfl 49 _ _ rfl 1 _ _ _ _ hM rfl rfl rfl rfl sz_Bound rfl ?_; clear hM; intro W hM; simp only [List.set_cons_succ, List.set_cons_zero] at hM) | (refine wpList_store_mem rfl 49 _ _ rfl 2 _ _ _ _ hM rfl rfl rfl rfl sz_Bound rfl ?_; clear hM; intro W hM; simp only [List.set_cons_succ, List.set_cons_zero] at hM) | (refine wpList_store_mem rfl 49 _ _ rfl 3 _ _ _ _ hM rfl rfl rfl rfl sz_Bound rfl ?_; clear hM; intro W hM; simp only [List.set_cons_succ, List.set_cons_zero] at hM) | (refine wpList_store_mem rfl 49 _ _ rfl 4 _ _ _ _ hM rfl rfl rfl rfl sz_Bound rfl ?_; clear hM; intro W hM; simp only [List.set_cons_succ, List.set_cons_zero] at hM) | (refine wpList_store_mem rfl 49 _ _ rfl 5 _ _ _ _ hM rfl rfl rfl rfl sz_Bound rfl ?_; clear hM; intro W hM; simp only [List.set_cons_succ, List.set_cons_zero] at hM)))
            go_roundg (k - (m + 1))
            case measure => have := HGM.out; omega
            case rel => exact ⟨m + 1, rfl, by omega, by go_num, hM.take_ 5⟩
          · have hmk : m = k := by omega
            go_wp2_with fail
            go_roundg (l2.length - (k + 1))
            case measure => have := HGK.out; omega
            case rel => exact ⟨k + 1, rfl, by omega, by go_num, hM.take_ 4⟩
      · go_wp2_with fail
        go_ret
        exact ⟨rfl, hM.b⟩
  · have HLN := Lib.hid hlen
    have HBB := Lib.hid hbb
    have HBP := Lib.hid hbp
    clear hlen hbb hbp
    go_wp2_with (first
      | go_skip
      | (go_at_call 28; refine (HA.out _ (hM.at_ 0 rfl) (hM.toRd 1 rfl)).mono ?_; rintro x W ⟨va, rfl, hM6⟩; replace hM := hM.join hM6; clear hM6; simp only [List.cons_append, List.nil_append] at hM; obtain ⟨A, cap, rfl⟩ := rdR_form (hM.get 3 rfl); dsimp only)
      | ((with_reducible refine at_box_ ?_); refine wpList_box_mem rfl _ _ rfl _ rfl hM ?_; clear hM; intro gb W hM; first | (simp only [List.nil_append] at hM) | (simp only [List.cons_append, List.nil_append] at hM)))
    go_loopg [48] l2.length (fun gh i wr => ∃ (k : Nat), gh = l2.length - k ∧ k ≤ l2.length ∧ i = .int .i64 k ∧ Mem w wr [pA g v2, pW v2 l2, atR gp 49 (cBound ⟨a1a, a1b, a1c, a1d, a1e, b1f, a1g⟩), rdR 7 cBound (.slice A l2.length cap) l2])
    case atStart => exact ⟨0, by omega, by omega, rfl, hM⟩
    case round =>
      clear hM
      obtain ⟨k, hgk, hk, rfl, hM⟩ := hrel
      have HGK := Lib.hid hgk
      clear hgk
      by_cases hlt : k < l2.length
      · obtain ⟨a, haa⟩ : ∃ b, l2[k]? = some b := ⟨l2[k], List.getElem?_eq_getElem hlt⟩
        have he : l2[k] = a := Option.some.inj ((List.getElem?_eq_getElem hlt).symm.trans haa)
        obtain ⟨gB, offB, rfl, hr0, _⟩ := rdR_range (size := 7) (f := cBound) (fun _ => rfl) (hM.get 3 rfl) k hlt
        have hcap : l2.length ≤ cap := rdR_cap (hM.get 3 rfl) (by omega)
        rw [he] at hr0
        have HAA := Lib.hid haa
        clear he haa
        go_upto_region 11 with         (first
          | go_skip
          | ((with_reducible refine at_load_ (T := 49) ?_); refine wpList_load_mid rfl 49 _ rfl gB (offB + k * 7) rfl (cBound a) _ hr0 Try.underlying49 rfl sz_Bound ?_)
          | ((with_reducible refine at_box_ ?_); refine wpList_box_mem rfl _ _ rfl _ rfl hM ?_; clear hM; intro gb W hM; first | (simp only [List.nil_append] at hM) | (simp only [List.cons_append, List.nil_append] at hM))
          | ((with_reducible refine at_alloc_ (T := 49) ?_); refine wpList_alloc_mem rfl 49 rfl _ zv_Bound _ rfl hM ?_; clear hM; intro gb W hM; first | (simp only [List.nil_append] at hM) | (simp only [List.cons_append, List.nil_append] at hM))
          | ((with_reducible refine at_load_ (T := 49) ?_); refine at_wanted_ (by rfl) ?_; first | (refine wpList_loadg_mem (by go_simp) 49 _ rfl 0 _ _ _ hM rfl rfl _ Try.underlying49 rfl sz_Bound ?_) | (refine wpList_loadg_mem (by go_simp) 49 _ rfl 1 _ _ _ hM rfl rfl _ Try.underlying49 rfl sz_Bound ?_) | (refine wpList_loadg_mem (by go_simp) 49 _ rfl 2 _ _ _ hM rfl rfl _ Try.underlying49 rfl sz_Bound ?_) | (refine wpList_loadg_mem (by go_simp) 49 _ rfl 3 _ _ _ hM rfl rfl _ Try.underlying49 rfl sz_Bound ?_) | (refine wpList_loadg_mem (by go_simp) 49 _ rfl 4 _ _ _ hM rfl rfl _ Try.underlying49 rfl sz_Bound ?_))
          | ((with_reducible refine at_store_ (T := 49) ?_); first | (refine wpList_store_mem rfl 49 _ _ rfl 0 _ _ _ _ hM rfl rfl rfl rfl sz_Bound rfl ?_; clear hM; intro W hM; simp only [List.set_cons_zero] at hM) | (refine wpList_store_mem rfl 49 _ _ rfl 1 _ _ _ _ hM rfl rfl rfl rfl sz_Bound rfl ?_; clear hM; intro W hM; simp only [List.set_cons_succ, List.set_cons_zero] at hM) | (refine wpList_store_mem rfl 49 _ _ rfl 2 _ _ _ _ hM rfl rfl rfl rfl sz_Bound rfl ?_; clear hM; intro W hM; simp only [List.set_cons_succ, List.set_cons_zero] at hM) | (refine wpList_store_mem rfl 49 _ _ rfl 3 _ _ _ _ hM rfl rfl rfl rfl sz_Bound rfl ?_; clear hM; intro W hM; simp only [List.set_cons_succ, List.set_cons_zero] at hM) | (refine wpList_store_mem rfl 49 _ _ rfl 4 _ _ _ _ hM rfl rfl rfl rfl sz_Bound rfl ?_; clear hM; intro W hM; simp only [List.set_cons_succ, List.set_cons_zero] at hM)))
        clear hr0
        go_wp2_with fail
        go_loopg [57] k (fun gh j wr => ∃ (m : Nat), gh = k - m ∧ m ≤ k ∧ j = .int .i64 m ∧ Mem w wr [pA g v2, pW v2 l2, atR gp 49 (cBound ⟨a1a, a1b, a1c, a1d, a1e, b1f, a1g⟩), rdR 7 cBound (.slice (some ⟨gB, offB, none⟩) l2.length cap) l2, atR gb 49 (cBound a)])
        case atStart => exact ⟨0, by omega, by omega, rfl, hM⟩
        case round =>
          clear hM
          obtain ⟨m, hgm, hm, rfl, hM⟩ := hrel
          have HGM := Lib.hid hgm
          clear hgm
          by_cases hltm : m < k
          · obtain ⟨c, hcc⟩ : ∃ b, l2[m]? = some b := ⟨l2[m], List.getElem?_eq_getElem (by omega)⟩
            have hec : l2[m]'(by omega) = c := Option.some.inj ((List.getElem?_eq_getElem (by omega)).symm.trans hcc)
            obtain ⟨gB', offB', hv', hr0, _⟩ := rdR_range (size := 7) (f := cBound) (fun _ => rfl) (hM.get 3 rfl) m (by omega)
            injection hv' with hv'
            injection hv' with hv1 hv2 _
            subst hv1 hv2
            rw [hec] at hr0
            have HKC := Lib.hid (fun W => kclash_any a c W)
            rw [HAP.out k m a c HAA.out hcc hltm] at HKC
            clear hec hcc
            go_wp2_with         (first
          | go_skip
          | (go_at_call 29; go_must (refine (HKC.out _).mono ?_; rintro e W ⟨rfl, hb⟩; replace hM := hM.kept hb; clear hb))
          | ((with_reducible refine at_load_ (T := 49) ?_); refine wpList_load_mid rfl 49 _ rfl gB (offB + m * 7) rfl (cBound c) _ hr0 Try.underlying49 rfl sz_Bound ?_)
          | ((with_reducible refine at_box_ ?_); refine wpList_box_mem rfl _ _ rfl _ rfl hM ?_; clear hM; intro gb W hM; first | (simp only [List.nil_append] at hM) | (simp only [List.cons_append, List.nil_append] at hM))
          | ((with_reducible refine at_alloc_ (T := 49) ?_); refine wpList_alloc_mem rfl 49 rfl _ zv_Bound _ rfl hM ?_; clear hM; intro gb W hM; first | (simp only [List.nil_append] at hM) | (simp only [List.cons_append, List.nil_append] at hM))
          | ((with_reducible refine at_load_ (T := 49) ?_); refine at_wanted_ (by rfl) ?_; first | (refine wpList_loadg_mem (by go_simp) 49 _ rfl 0 _ _ _ hM rfl rfl _ Try.underlying49 rfl sz_Bound ?_) | (refine wpList_loadg_mem (by go_simp) 49 _ rfl 1 _ _ _ hM rfl rfl _ Try.underlying49 rfl sz_Bound ?_) | (refine wpList_loadg_mem (by go_simp) 49 _ rfl 2 _ _ _ hM rfl rfl _ Try.underlying49 rfl sz_Bound ?_) | (refine wpList_loadg_mem (by go_simp) 49 _ rfl 3 _ _ _ hM rfl rfl _ Try.underlying49 rfl sz_Bound ?_) | (refine wpList_loadg_mem (by go_simp) 49 _ rfl 4 _ _ _ hM rfl rfl _ Try.underlying49 rfl sz_Bound ?_) | (refine wpList_loadg_mem (by go_simp) 49 _ rfl 5 _ _ _ hM rfl rfl _ Try.underlying49 rfl sz_Bound ?_))
          | ((with_reducible refine at_store_ (T := 49) ?_); first | (refine wpList_store_mem rfl 49 _ _ rfl 0 _ _ _ _ hM rfl rfl rfl rfl sz_Bound rfl ?_; clear hM; intro W hM; simp only [List.set_cons_zero] at hM) | (refine wpList_store_mem rfl 49 _ _ rfl 1 _ _ _ _ hM rfl rfl rfl rfl sz_Bound rfl ?_; clear hM; intro W hM; simp only [List.set_cons_succ, List.set_cons_zero] at hM) | (refine wpList_store_mem rfl 49 _ _ rfl 2 _ _ _ _ hM rfl rfl rfl rfl sz_Bound rfl ?_; clear hM; intro W hM; simp only [List.set_cons_succ, List.set_cons_zero] at hM) | (refine wpList_store_mem rfl 49 _ _ rfl 3 _ _ _ _ hM rfl rfl rfl rfl sz_Bound rfl ?_; clear hM; intro W hM; simp only [List.set_cons_succ, List.set_cons_zero] at hM) | (refine wpList_store_mem rfl 49 _ _ rfl 4 _ _ _ _ hM rfl rfl rfl rfl sz_Bound rfl ?_; clear hM; intro W hM; simp only [List.set_cons_succ, List.set_cons_zero] at hM) | (refine wpList_store_mem rfl 49 _ _ rfl 5 _ _ _ _ hM rfl rfl rfl rfl sz_Bound rfl ?_; clear hM; intro W hM; simp only [List.set_cons_succ, List.set_cons_zero] at hM)))
            go_roundg (k - (m + 1))
            case measure => have := HGM.out; omega
            case rel => exact ⟨m + 1, rfl, by omega, by go_num, hM.take_ 5⟩
          · have hmk : m = k := by omega
            go_wp2_with fail
            go_roundg (l2.length - (k + 1))
            case measure => have := HGK.out; omega
            case rel => exact ⟨k + 1, rfl, by omega, by go_num, hM.take_ 4⟩
      · have hlen := HLN.out
        obtain ⟨gB, offB, rfl, hr0, _⟩ := rdR_range (size := 7) (f := cBound) (fun _ => rfl) (hM.get 3 rfl) m0 (by omega)
        rw [Option.some.inj ((List.getElem?_eq_getElem (by omega)).symm.trans HBB.out)] at hr0
        have hc := hr0 2 _ rfl
        rw [HBP.out] at hc
        have hl3 : ((l2.length : Int) - 1) = (m0 : Int) := by omega
        clear hr0
        go_wp2_with fail
        go_ret
        exact ⟨rfl, hM.b⟩
end Go.Proofs.Ytalfdbhpaonfjaa
