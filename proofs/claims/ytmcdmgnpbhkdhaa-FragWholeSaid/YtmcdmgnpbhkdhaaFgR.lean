/- frag: put. Written by my genfg.py. -/
import Derived.Test.YtmcdmgnpbhkdhaaFgQ
import Derived.Test.YtmcdmgnpbhkdhaaOrdC
import Derived.Test.YtmcdmgnpbhkdhaaTy
import Derived.Test.YtmcdmgnpbhkdhaaSt
import Derived.Test.YtmcdmgnpbhkdhaaSub
import Derived.IntWalk
import Derived.Deep.CutBlock
namespace Go.Proofs.Ytmcdmgnpbhkdhaa
open Go.RowKit Go.Lib
set_option linter.unusedVariables false
set_option linter.unusedSimpArgs false


def wR (g : Nat) (f : FW) : Res := atR g 118 (fgC f)
theorem fgC_some (f : FW) (i : Nat) (h : i < 8013) : ((fgC f)[i]?).isSome = true := by rw [List.getElem?_eq_getElem (by rw [fgC_len]; exact h)]; rfl
theorem fgC_some3 (f : FW) (j : Nat) (v : Value) (i : Nat) (h : i < 8013) : (((fgC f).set j v)[i]?).isSome = true := by rw [List.getElem?_eq_getElem (by rw [List.length_set, fgC_len]; exact h)]; rfl
def PutPost (E : Nat → Prop) (g : Nat) (f : FW) (p : Pk) (fr : Nat) (w : World) (e : Ending) (w' : World) : Prop :=
  (okPut f p fr ∧ e = .returned (.bool true) ∧ MemX E w w' [wR g (putF f p fr)]) ∨ (¬ okPut f p fr ∧ e = .returned (.bool false) ∧ MemX E w w' [])

set_option maxRecDepth 100000 in
set_option maxHeartbeats 8000000 in
theorem put_any (g : Nat) (f : FW) (p : Pk) (fr : Nat) (w : World) (hM0 : MemX (blkE [wR g f]) w w [wR g f]) (ok : FgOk f) (ht : fr + p.b.size ≤ 4000) :
    Calls Try.prog 50 #[.pointer (some ⟨g, 0, none⟩), .agg (pkC p).toArray, .int .i64 fr] w fun e w' => PutPost (blkE [wR g f]) g f p fr w e w' := by
  have hM : MemX (blkE [wR g f]) w w [atR g 118 (fgC (f))] := hM0
  generalize blkE [wR g f] = E at *
  clear hM0
  have e1 := ok.en1
  have e2 := ok.en2
  have l1 := ok.la1
  have l2 := ok.la2
  clear ok
  have HSZ := Lib.hid (fun f i h => fgC_some f i h)
  have HLE := Lib.hid (fun f => (by rw [fgC_len]; exact (show 8002 + 9 ≤ 8013 by omega) : 8002 + (pkC p).length ≤ (fgC f).length))
  have HS3 := Lib.hid (fun f j v i h => fgC_some3 f j v i h)
  obtain ⟨tz, hto⟩ : ∃ z : Nat, z = fr + p.b.size := ⟨_, rfl⟩
  have eto : (fr : Int) + (p.b.size : Int) = tz := by omega
  have HTO := Lib.hid hto
  have ht2 : tz ≤ 4000 := by omega
  have hfr : fr ≤ tz := by omega
  clear ht hto
  go_enter Try.func50, Try.ntmps50
  go_upto_region 1 with (first | go_skip | ((with_reducible refine at_box_ ?_); refine wpList_box_mem rfl _ _ rfl (pkC p) rfl hM ?_; clear hM; intro gp W hM))
  replace hM : MemX E w W [atR gp 40 (pkC p), atR g 118 (fgC (f))] := hM.perm (List.Perm.swap _ _ _)
  go_upto_region 2 with         (first
          | go_skip
          | ((with_reducible refine at_box_ ?_); refine wpList_box_mem rfl _ _ rfl _ rfl hM ?_; clear hM; intro gb W hM; first | (simp only [List.nil_append] at hM) | (simp only [List.cons_append, List.nil_append] at hM))
          | ((with_reducible refine at_load_ ?_); refine at_wanted_ (by rfl) ?_; refine wpList_loadf_mem (by go_simp) _ _ rfl (by kernel_rfl) 0 _ _ _ _ _ hM rfl rfl (by first | rfl | assumption) ?_)
          | ((with_reducible refine at_store_ ?_); refine wpList_store1_mem rfl _ _ _ rfl 0 _ _ _ _ _ hM rfl rfl (by first | ((conv => lhs; whnf); done) | ((conv => lhs; whnf); rfl)) (by rfl) (by rfl) (by kernel_rfl) rfl ?_; clear hM; intro W hM; simp only [pkC, List.set_cons_succ, List.set_cons_zero] at hM))
  obtain ⟨mf, hmf⟩ : ∃ z, z = p.mf := ⟨_, rfl⟩
  have c0 := hM.cells 0 rfl 6
  have l0 := hM.lt 0 rfl
  replace c0 : W.cell? ⟨gp, 6, none⟩ = some (.bool p.mf) := c0
  rw [← hmf] at c0
  have HMF := Lib.hid hmf
  clear hmf
  go_upto_if 16 with (fail)
  go_cut [] (fun wc => Hid (c1P f p fr) ∧ MemX E w wc [atR gp 40 (pkC p), atR g 118 (fgC ({ f with en := enP f p fr }))])
  case first =>
    cases mf with
    | true =>
      have h := HMF.out.symm
      have HK := Lib.hid (show Hid (c1P f p fr) ∧ MemX E w W [atR gp 40 (pkC p), atR g 118 (fgC ({ f with en := enP f p fr }))] from ⟨Lib.hid (.inl h), by unfold enP; rw [if_pos h]; exact hM⟩)
      clear h
      go_wp2_with fail
      go_meet
      case rel => exact HK.out
    | false =>
      have h := HMF.out.symm
      have c1 : W.cell? ⟨g, 8000, none⟩ = some (.int .i64 f.en) := (hM.cells 1 rfl 8000).trans (fgC_t f 0)
      have l1g := hM.lt 1 rfl
      have HMX := Lib.hid h
      clear h
      have HEN := Lib.hid (show f.en = f.en from rfl)
      by_cases h1 : 0 ≤ f.en
      · by_cases h2 : f.en = tz
        · have h2b : (f.en != (tz : Int)) = false := by simpa using h2
          have H2 := Lib.hid h2
          clear h2
          go_wp2_with (first | go_skip | ((with_reducible refine at_store_ ?_); refine wpList_store1_mem rfl _ _ _ rfl 1 g _ _ 8000 (.int .i64 tz) hM rfl rfl rfl rfl rfl (by kernel_rfl) (HSZ.out _ _ (by omega)) ?_; clear hM; intro W hM))
          replace hM : MemX E w W [atR gp 40 (pkC p), atR g 118 (fgC ({ f with en := enP f p fr }))] := by
            have h := hM
            simp only [List.set_cons_succ, List.set_cons_zero] at h
            rw [fgC_seten] at h
            unfold enP
            rw [HMX.out, if_neg (by decide), ← HTO.out]
            exact h
          have HK := Lib.hid (show Hid (c1P f p fr) ∧ MemX E w W [atR gp 40 (pkC p), atR g 118 (fgC ({ f with en := enP f p fr }))] from ⟨Lib.hid (.inr (.inr (by rw [H2.out, HTO.out]))), hM⟩)
          go_meet
          case rel => exact HK.out
        · have h2b : (f.en != (tz : Int)) = true := by simpa using h2
          have HNO := Lib.hid (show ¬ okPut f p fr from fun h => by
            rcases h.1 with h3 | h3 | h3
            · rw [HMX.out] at h3; cases h3
            · omega
            · rw [← HTO.out] at h3; exact h2 h3)
          clear h2
          go_wp2_with fail
          go_ret
          exact .inr ⟨HNO.out, rfl, hM.take_ 0⟩
      · skip
        go_wp2_with (first | go_skip | ((with_reducible refine at_store_ ?_); refine wpList_store1_mem rfl _ _ _ rfl 1 g _ _ 8000 (.int .i64 tz) hM rfl rfl rfl rfl rfl (by kernel_rfl) (HSZ.out _ _ (by omega)) ?_; clear hM; intro W hM))
        replace hM : MemX E w W [atR gp 40 (pkC p), atR g 118 (fgC ({ f with en := enP f p fr }))] := by
          have h := hM
          simp only [List.set_cons_succ, List.set_cons_zero] at h
          rw [fgC_seten] at h
          unfold enP
          rw [HMX.out, if_neg (by decide), ← HTO.out]
          exact h
        have HK := Lib.hid (show Hid (c1P f p fr) ∧ MemX E w W [atR gp 40 (pkC p), atR g 118 (fgC ({ f with en := enP f p fr }))] from ⟨Lib.hid (.inr (.inl (by omega))), hM⟩)
        go_meet
        case rel => exact HK.out
  case rest =>
    obtain ⟨HC1, hM2⟩ := hcut
    clear hM c0 l0 HMF
    have hM := hM2
    clear hM2
    have hen : -1 ≤ enP f p fr ∧ enP f p fr ≤ 4000 := by unfold enP; split <;> omega
    have hlb : 0 ≤ laP f p fr ∧ laP f p fr ≤ 4000 := by unfold laP; split <;> omega
    have hlc : (f.la < (tz : Int) ∧ laP f p fr = tz) ∨ ((tz : Int) ≤ f.la ∧ laP f p fr = f.la) := by
      unfold laP
      rw [← HTO.out]
      by_cases h : f.la < (tz : Int)
      · exact .inl ⟨h, by rw [if_pos h]⟩
      · exact .inr ⟨by omega, by rw [if_neg h]⟩
    have HLC := Lib.hid hlc
    have HF2 := Lib.hid (show { { f with en := enP f p fr } with la := laP f p fr } = f2P f p fr from rfl)
    have HCC := Lib.hid (show c2P f p fr ↔ (enP f p fr < 0 ∨ laP f p fr ≤ enP f p fr) from Iff.rfl)
    generalize enP f p fr = en at *
    generalize laP f p fr = la at *
    clear hlc
    obtain ⟨f2, hf2⟩ : ∃ z : FW, z = { { f with en := en } with la := la } := ⟨_, rfl⟩
    have hf2 := Lib.hid hf2
    have c1 : wc.cell? ⟨g, 8001, none⟩ = some (.int .i64 f.la) := (hM.cells 1 rfl 8001).trans (fgC_t _ 1)
    have l1g := hM.lt 1 rfl
    go_upto_region 6 with (fail)
    go_cut [] (fun wc => MemX E w wc [atR gp 40 (pkC p), atR g 118 (fgC (f2))])
    case first =>
      rcases HLC.out with ⟨h1, h2⟩ | ⟨h1, h2⟩
      · have H2 := Lib.hid h2
        clear h2
        go_wp2_with (first | go_skip | ((with_reducible refine at_store_ ?_); refine wpList_store1_mem rfl _ _ _ rfl 1 g _ _ 8001 (.int .i64 tz) hM rfl rfl rfl rfl rfl (by kernel_rfl) (HSZ.out _ _ (by omega)) ?_; clear hM; intro W hM))
        have HK : MemX E w W [atR gp 40 (pkC p), atR g 118 (fgC (f2))] := by
          have h := hM
          simp only [List.set_cons_succ, List.set_cons_zero] at h
          rw [fgC_setla] at h
          rw [hf2.out, H2.out]
          exact h
        have HK := Lib.hid HK
        go_meet
        case rel => exact HK.out
      · have H2 := Lib.hid h2
        clear h2
        go_wp2_with (first | go_skip | ((with_reducible refine at_store_ ?_); refine wpList_store1_mem rfl _ _ _ rfl 1 g _ _ 8001 (.int .i64 f.la) hM rfl rfl rfl rfl rfl (by kernel_rfl) (HSZ.out _ _ (by omega)) ?_; clear hM; intro W hM))
        have HK : MemX E w W [atR gp 40 (pkC p), atR g 118 (fgC (f2))] := by
          have h := hM
          simp only [List.set_cons_succ, List.set_cons_zero] at h
          rw [fgC_setla] at h
          rw [hf2.out, H2.out]
          exact h
        have HK := Lib.hid HK
        go_meet
        case rel => exact HK.out
    case rest =>
      clear hM c1 l1g
      have hM := hcut
      clear hcut
      have hb2 : f2.b = f.b := by rw [hf2.out]
      have hh2 : f2.h = f.h := by rw [hf2.out]
      have HF := Lib.hid (show f2 = f2P f p fr from hf2.out.trans HF2.out)
      have he2 : f2.en = en := by rw [hf2.out]
      have hl2 : f2.la = la := by rw [hf2.out]
      have c1 : wc.cell? ⟨g, 8000, none⟩ = some (.int .i64 en) := by rw [← he2]; exact (hM.cells 1 rfl 8000).trans (fgC_t _ 0)
      have c2 : wc.cell? ⟨g, 8001, none⟩ = some (.int .i64 la) := by rw [← hl2]; exact (hM.cells 1 rfl 8001).trans (fgC_t _ 1)
      have l1g := hM.lt 1 rfl
      have HBAD := Lib.hid (show (∃ bad : Bool, (bad = true → ¬ c2P f p fr) ∧ (bad = false → c2P f p fr) ∧ ((en < 0 ∧ bad = false) ∨ (0 ≤ en ∧ la ≤ en ∧ bad = false) ∨ (0 ≤ en ∧ en < la ∧ bad = true))) from by
        rw [HCC.out]
        by_cases h1 : en < 0
        · exact ⟨false, by simp, fun _ => .inl h1, .inl ⟨h1, rfl⟩⟩
        · by_cases h2 : la ≤ en
          · exact ⟨false, by simp, fun _ => .inr h2, .inr (.inl ⟨by omega, h2, rfl⟩)⟩
          · exact ⟨true, fun _ h => by omega, by simp, .inr (.inr ⟨by omega, by omega, rfl⟩)⟩)
      obtain ⟨bad, hbd⟩ := HBAD.out
      have HBD := Lib.hid hbd
      clear hbd HBAD
      go_upto_region 7 with (fail)
      go_cut [58] (fun b W2 => b = .bool bad ∧ MemX E w W2 [atR gp 40 (pkC p), atR g 118 (fgC (f2))])
      case first =>
        rcases HBD.out.2.2 with ⟨h1, hb⟩ | ⟨h1, h2, hb⟩ | ⟨h1, h2, hb⟩
        · have HB := Lib.hid hb
          clear hb
          have q1 : decide (0 ≤ en) = false := by simp; omega
          refine wp_region_later (by kernel_rfl) (by kernel_rfl) (fun hlc => ?_)
          repeat (go_big_quiet_step (fail))
          refine wpQuiet_nil ?_
          intro wq hbq
          clear hlc
          replace hM := hM.kept hbq
          clear hbq
          have HK := Lib.hid hM
          go_wp2_with fail
          go_meet
          case rel => exact ⟨by rw [HB.out], HK.out⟩
        · have HB := Lib.hid hb
          clear hb
          have q1 : decide (0 ≤ en) = true := by simp; omega
          have q2 : decide (en < la) = false := by simp; omega
          refine wp_region_later (by kernel_rfl) (by kernel_rfl) (fun hlc => ?_)
          repeat (go_big_quiet_step (fail))
          refine wpQuiet_nil ?_
          intro wq hbq
          clear hlc
          replace hM := hM.kept hbq
          clear hbq
          have HK := Lib.hid hM
          go_wp2_with fail
          go_meet
          case rel => exact ⟨by rw [HB.out], HK.out⟩
        · have HB := Lib.hid hb
          clear hb
          have q1 : decide (0 ≤ en) = true := by simp; omega
          have q2 : decide (en < la) = true := by simp; omega
          refine wp_region_later (by kernel_rfl) (by kernel_rfl) (fun hlc => ?_)
          repeat (go_big_quiet_step (fail))
          refine wpQuiet_nil ?_
          intro wq hbq
          clear hlc
          replace hM := hM.kept hbq
          clear hbq
          have HK := Lib.hid hM
          go_wp2_with fail
          go_meet
          case rel => exact ⟨by rw [HB.out], HK.out⟩
      case rest =>
        obtain ⟨rfl, hM2⟩ := hcut
        clear hM c1 c2 l1g
        have hM := hM2
        clear hM2
        cases bad
        · have HC2 := Lib.hid (HBD.out.2.1 rfl)
          clear HBD
          go_upto_region 10 with (fail)
          go_loopg [8] (tz - fr) (fun gh i wr => ∃ k : Nat, gh = tz - k ∧ fr ≤ k ∧ k ≤ tz ∧ i = .int .i64 k ∧ MemX E w wr [atR gp 40 (pkC p), atR g 118 (fgC (midF f2 p.b fr k))] ∧ Hid (agree f p.b fr k))
          case atStart => exact ⟨fr, by omega, by omega, by omega, rfl, by rw [midF_start]; exact hM, Lib.hid (fun k a b _ => by omega)⟩
          case round =>
            clear hM
            obtain ⟨k, hgk, hk1, hk2, rfl, hM, HAG⟩ := hrel
            have HGK := Lib.hid hgk
            clear hgk
            by_cases hlt : k < tz
            · obtain ⟨x, hx⟩ : ∃ x : Nat, (k : Int) - (fr : Int) = (x : Int) := ⟨k - fr, by omega⟩
              have hxs : x < p.b.size := by omega
              have hxk : k - fr = x := by omega
              have hk4 : k < 4000 := by omega
              have d0 : wr.cell? ⟨gp, 8, none⟩ = some (.string p.b) := hM.cells 0 rfl 8
              have d1 : wr.cell? ⟨g, 4000 + k, none⟩ = some (.bool (f.h k)) := by
                have h := (hM.cells 1 rfl (4000 + k)).trans (fgC_h _ k hk4)
                rw [show (midF f2 p.b fr k).h k = f.h k from by show (f2.h k || decide (fr ≤ k ∧ k < k)) = f.h k; rw [hh2, decide_eq_false (by omega), Bool.or_false]] at h
                exact h
              have d2 : wr.cell? ⟨g, k, none⟩ = some (.int .u8 (f.b k)) := by
                have h := (hM.cells 1 rfl k).trans (fgC_b _ k hk4)
                rw [show (midF f2 p.b fr k).b k = f.b k from by show (if fr ≤ k ∧ k < k then _ else f2.b k) = f.b k; rw [hb2, if_neg (by omega)]] at h
                exact h
              have m0 := hM.lt 0 rfl
              have m1 := hM.lt 1 rfl
              have w1 : IntKind.i64.wrap ((k : Int) - (fr : Int)) = (x : Int) := by rw [hx]; exact IntWalk.i64_in _ (by omega)
              have k0 : (0 : Int) ≤ (k : Int) := by omega
              have k1 : (k : Int) < 4000 := by omega
              have x0 : (0 : Int) ≤ (x : Int) := by omega
              have x1 : (x : Int) < (p.b.size : Int) := by omega
              have HX := Lib.hid hxk
              have hbt := fgbyte_at p.b x hxs
              have HBT := Lib.hid hbt
              clear hx hxk hbt
              obtain ⟨hb, hhb⟩ : ∃ z, z = f.h k := ⟨_, rfl⟩
              rw [← hhb] at d1
              have HHB := Lib.hid hhb
              clear hhb
              go_upto_region 12 with (fail)
              cases hb
              · refine wp_region_later (by kernel_rfl) (by kernel_rfl) (fun hlc => ?_)
                repeat (go_big_quiet_step (fail))
                refine wpQuiet_nil ?_
                intro wq hbq
                clear hlc
                replace hM := hM.kept hbq
                clear hbq d0 d1 d2 m0 m1
                have HAG2 := Lib.hid (show agree f p.b fr (k + 1) from agree_step HAG.out (fun h => by rw [← HHB.out] at h; cases h))
                have HW0 := Lib.hid (fun W (h : (atR gp 40 (pkC p)).P W) => (show W.cell? ⟨gp, 8, none⟩ = some (.string p.b) from (show At W _ _ _ from h).cell 8))
                go_upto_region 14 with (fail)
                refine wp_region_M [0] [17] hM (by kernel_rfl) ?_
                clear hM
                intro wo hM
                refine wpI_takeP (i := 0) (v := ?_) rfl (by kernel_rfl) (by kernel_rfl) (by kernel_rfl) (by first | exact fun _ _ _ h => h | exact fun _ _ _ h => HQ0.out _ _ _ _ _ h) (Or.inl ⟨by rfl, ?hy⟩) ?_
                case hy => (intro W; go_simp; (try with_reducible rfl))
                simp only [Act.put, List.getElem_toArray, List.getElem_cons_succ, List.getElem_cons_zero, List.setIfInBounds_toArray, List.set_cons_zero, List.set_cons_succ]
                refine wpI_takeP (i := 1) (v := ?_) rfl (by kernel_rfl) (by kernel_rfl) (by kernel_rfl) (by first | exact fun _ _ _ h => h | exact fun _ _ _ h => HQ0.out _ _ _ _ _ h) (Or.inl ⟨by rfl, ?hy⟩) ?_
                case hy => (intro W; go_simp; (try with_reducible rfl))
                simp only [Act.put, List.getElem_toArray, List.getElem_cons_succ, List.getElem_cons_zero, List.setIfInBounds_toArray, List.set_cons_zero, List.set_cons_succ]
                refine wpI_takeP (i := 2) (v := ?_) rfl (by kernel_rfl) (by kernel_rfl) (by kernel_rfl) (by first | exact fun _ _ _ h => h | exact fun _ _ _ h => HQ0.out _ _ _ _ _ h) (Or.inl ⟨by rfl, ?hy⟩) ?_
                case hy => (intro W; go_simp; (try with_reducible rfl))
                simp only [Act.put, List.getElem_toArray, List.getElem_cons_succ, List.getElem_cons_zero, List.setIfInBounds_toArray, List.set_cons_zero, List.set_cons_succ]
                refine wpI_takeP (i := 3) (v := ?_) rfl (by kernel_rfl) (by kernel_rfl) (by kernel_rfl) (by first | exact fun _ _ _ h => h | exact fun _ _ _ h => HQ0.out _ _ _ _ _ h) (Or.inl ⟨by rfl, ?hy⟩) ?_
                case hy => (intro W; go_simp; (try with_reducible rfl))
                simp only [Act.put, List.getElem_toArray, List.getElem_cons_succ, List.getElem_cons_zero, List.setIfInBounds_toArray, List.set_cons_zero, List.set_cons_succ]
                refine wpI_takeP (i := 4) (v := ?_) rfl (by kernel_rfl) (by kernel_rfl) (by kernel_rfl) (by first | exact fun _ _ _ h => h | exact fun _ _ _ h => HQ0.out _ _ _ _ _ h) (Or.inl ⟨by rfl, ?hy⟩) ?_
                case hy => (intro W; go_simp; (try with_reducible rfl))
                simp only [Act.put, List.getElem_toArray, List.getElem_cons_succ, List.getElem_cons_zero, List.setIfInBounds_toArray, List.set_cons_zero, List.set_cons_succ]
                refine wpI_takeT (i := 5) (v := ?_) rfl (by kernel_rfl) (by kernel_rfl) (by kernel_rfl) (by kernel_rfl) (by first | exact fun _ _ _ h => h | exact fun _ _ _ h => HQ0.out _ _ _ _ _ h) ⟨fun r hr => hM.get 0 hr, trivial⟩ (Or.inl ⟨by rfl, ?hy⟩) ?_
                case hy => (rintro W ⟨i0, -⟩; have c0 := HW0.out W (i0 _ rfl); go_simp; (try with_reducible rfl))
                simp only [Act.put, List.getElem_toArray, List.getElem_cons_succ, List.getElem_cons_zero, List.setIfInBounds_toArray, List.set_cons_zero, List.set_cons_succ]
                refine wpI_takeP (i := 6) (v := ?_) rfl (by kernel_rfl) (by kernel_rfl) (by kernel_rfl) (by first | exact fun _ _ _ h => h | exact fun _ _ _ h => HQ0.out _ _ _ _ _ h) (Or.inl ⟨by rfl, ?hy⟩) ?_
                case hy => (intro W; go_simp; (try with_reducible rfl))
                simp only [Act.put, List.getElem_toArray, List.getElem_cons_succ, List.getElem_cons_zero, List.setIfInBounds_toArray, List.set_cons_zero, List.set_cons_succ]
                refine wpI_takeP (i := 7) (v := ?_) rfl (by kernel_rfl) (by kernel_rfl) (by kernel_rfl) (by first | exact fun _ _ _ h => h | exact fun _ _ _ h => HQ0.out _ _ _ _ _ h) (Or.inl ⟨by rfl, ?hy⟩) ?_
                case hy => (intro W; go_simp; (try with_reducible rfl))
                simp only [Act.put, List.getElem_toArray, List.getElem_cons_succ, List.getElem_cons_zero, List.setIfInBounds_toArray, List.set_cons_zero, List.set_cons_succ]
                refine wpI_takeP (i := 8) (v := ?_) rfl (by kernel_rfl) (by kernel_rfl) (by kernel_rfl) (by first | exact fun _ _ _ h => h | exact fun _ _ _ h => HQ0.out _ _ _ _ _ h) (Or.inl ⟨by rfl, ?hy⟩) ?_
                case hy => (intro W; go_simp; (try with_reducible rfl))
                simp only [Act.put, List.getElem_toArray, List.getElem_cons_succ, List.getElem_cons_zero, List.setIfInBounds_toArray, List.set_cons_zero, List.set_cons_succ]
                refine wpI_takeP (i := 9) rfl (by kernel_rfl) (by kernel_rfl) (by kernel_rfl) (by first | exact fun _ _ _ h => h | exact fun _ _ _ h => HQ0.out _ _ _ _ _ h) ((show Yields _ _ _ (.int .u8 (bZ p.b x)) _ from .inl ⟨by rfl, fun W => by go_simp; unfold bZ; rw [HBT.out]⟩)) ?_
                simp only [Act.put, List.getElem_toArray, List.getElem_cons_succ, List.getElem_cons_zero, List.setIfInBounds_toArray, List.set_cons_zero, List.set_cons_succ]
                (try simp only [Bool.not_true, Bool.not_false])
                refine wpI_takeP (i := 10) (v := ?_) rfl (by kernel_rfl) (by kernel_rfl) (by kernel_rfl) (by first | exact fun _ _ _ h => h | exact fun _ _ _ h => HQ0.out _ _ _ _ _ h) (Or.inl ⟨by rfl, ?hy⟩) ?_
                case hy => (intro W; go_simp; (try with_reducible rfl))
                simp only [Act.put, List.getElem_toArray, List.getElem_cons_succ, List.getElem_cons_zero, List.setIfInBounds_toArray, List.set_cons_zero, List.set_cons_succ]
                refine wpI_takeP (i := 11) (v := ?_) rfl (by kernel_rfl) (by kernel_rfl) (by kernel_rfl) (by first | exact fun _ _ _ h => h | exact fun _ _ _ h => HQ0.out _ _ _ _ _ h) (Or.inl ⟨by rfl, ?hy⟩) ?_
                case hy => (intro W; go_simp; (try with_reducible rfl))
                simp only [Act.put, List.getElem_toArray, List.getElem_cons_succ, List.getElem_cons_zero, List.setIfInBounds_toArray, List.set_cons_zero, List.set_cons_succ]
                refine wpI_takeP (i := 12) (v := ?_) rfl (by kernel_rfl) (by kernel_rfl) (by kernel_rfl) (by first | exact fun _ _ _ h => h | exact fun _ _ _ h => HQ0.out _ _ _ _ _ h) (Or.inl ⟨by rfl, ?hy⟩) ?_
                case hy => (intro W; go_simp; (try with_reducible rfl))
                simp only [Act.put, List.getElem_toArray, List.getElem_cons_succ, List.getElem_cons_zero, List.setIfInBounds_toArray, List.set_cons_zero, List.set_cons_succ]
                refine wpI_takeP (i := 14) (v := ?_) rfl (by kernel_rfl) (by kernel_rfl) (by kernel_rfl) (by first | exact fun _ _ _ h => h | exact fun _ _ _ h => HQ0.out _ _ _ _ _ h) (Or.inl ⟨by rfl, ?hy⟩) ?_
                case hy => (intro W; go_simp; (try with_reducible rfl))
                simp only [Act.put, List.getElem_toArray, List.getElem_cons_succ, List.getElem_cons_zero, List.setIfInBounds_toArray, List.set_cons_zero, List.set_cons_succ]
                refine wpI_takeP (i := 15) (v := ?_) rfl (by kernel_rfl) (by kernel_rfl) (by kernel_rfl) (by first | exact fun _ _ _ h => h | exact fun _ _ _ h => HQ0.out _ _ _ _ _ h) (Or.inl ⟨by rfl, ?hy⟩) ?_
                case hy => (intro W; go_simp; (try with_reducible rfl))
                simp only [Act.put, List.getElem_toArray, List.getElem_cons_succ, List.getElem_cons_zero, List.setIfInBounds_toArray, List.set_cons_zero, List.set_cons_succ]
                refine wpI_one (i := 13) rfl (by kernel_rfl) ?_
                (try simp only [Act.put, List.getElem_toArray, List.getElem_cons_succ, List.getElem_cons_zero, List.setIfInBounds_toArray, List.set_cons_zero, List.set_cons_succ])
                go_wp2_with (first
                    | go_skip
                    | ((with_reducible refine at_store_ ?_); first | (refine wpList_store1_mem rfl _ _ _ rfl 1 g _ _ (4000 + k) (.bool true) hM rfl rfl rfl rfl rfl (by kernel_rfl) (HSZ.out _ _ (by omega)) ?_; clear hM; intro W hM; simp only [List.set_cons_succ, List.set_cons_zero] at hM) | (refine wpList_store1_mem rfl _ _ _ rfl 1 g _ _ k (.int .u8 (bZ p.b x)) hM rfl rfl rfl rfl rfl (by kernel_rfl) (HS3.out _ _ _ _ (by omega)) ?_; clear hM; intro W hM; simp only [List.set_cons_succ, List.set_cons_zero] at hM))
                    | ((with_reducible refine at_box_ ?_); refine wpList_box_mem rfl _ _ rfl _ rfl hM ?_; clear hM; intro gb W hM; first | (simp only [List.nil_append] at hM) | (simp only [List.cons_append, List.nil_append] at hM)))
                refine contI_normal ⟨fun r hr => hM.get 0 hr, trivial⟩ ?_
                (try simp only [Act.put, List.getElem_toArray, List.getElem_cons_succ, List.getElem_cons_zero, List.setIfInBounds_toArray, List.set_cons_zero, List.set_cons_succ])
                refine wpI_takeP (i := 16) (v := ?_) rfl (by kernel_rfl) (by kernel_rfl) (by kernel_rfl) (by first | exact fun _ _ _ h => h | exact fun _ _ _ h => HQ0.out _ _ _ _ _ h) (Or.inl ⟨by rfl, ?hy⟩) ?_
                case hy => (intro W; go_simp; (try with_reducible rfl))
                simp only [Act.put, List.getElem_toArray, List.getElem_cons_succ, List.getElem_cons_zero, List.setIfInBounds_toArray, List.set_cons_zero, List.set_cons_succ]
                refine wpI_one (i := 17) rfl (by kernel_rfl) ?_
                (try simp only [Act.put, List.getElem_toArray, List.getElem_cons_succ, List.getElem_cons_zero, List.setIfInBounds_toArray, List.set_cons_zero, List.set_cons_succ])
                go_wp2_with (first
                    | go_skip
                    | ((with_reducible refine at_store_ ?_); first | (refine wpList_store1_mem rfl _ _ _ rfl 1 g _ _ (4000 + k) (.bool true) hM rfl rfl rfl rfl rfl (by kernel_rfl) (HSZ.out _ _ (by omega)) ?_; clear hM; intro W hM; simp only [List.set_cons_succ, List.set_cons_zero] at hM) | (refine wpList_store1_mem rfl _ _ _ rfl 1 g _ _ k (.int .u8 (bZ p.b x)) hM rfl rfl rfl rfl rfl (by kernel_rfl) (HS3.out _ _ _ _ (by omega)) ?_; clear hM; intro W hM; simp only [List.set_cons_succ, List.set_cons_zero] at hM))
                    | ((with_reducible refine at_box_ ?_); refine wpList_box_mem rfl _ _ rfl _ rfl hM ?_; clear hM; intro gb W hM; first | (simp only [List.nil_append] at hM) | (simp only [List.cons_append, List.nil_append] at hM)))
                refine contI_late (by decide) ?_
                (try simp only [Act.put, List.getElem_toArray, List.getElem_cons_succ, List.getElem_cons_zero, List.setIfInBounds_toArray, List.set_cons_zero, List.set_cons_succ])
                refine wpI_done (by kernel_rfl) ?_ _
                (try simp only [Act.put, List.getElem_toArray, List.getElem_cons_succ, List.getElem_cons_zero, List.setIfInBounds_toArray, List.set_cons_zero, List.set_cons_succ])
                rw [← HX.out] at hM
                simp only [midF_step f2 p.b fr k hk1 hk4] at hM
                go_wp2_with fail
                go_roundg (tz - (k + 1))
                case measure => have := HGK.out; omega
                case rel => exact ⟨k + 1, rfl, by omega, by omega, by go_num, hM, HAG2⟩
              · have hbz : ((p.b[x].toNat : Nat) : Int) = bZ p.b x := by unfold bZ; rw [HBT.out]
                by_cases hbe : f.b k = bZ p.b x
                · have HBE := Lib.hid hbe
                  have q1 : (f.b k != ((p.b[x].toNat : Nat) : Int)) = false := by rw [hbz, hbe]; simp
                  clear hbe hbz
                  refine wp_region_later (by kernel_rfl) (by kernel_rfl) (fun hlc => ?_)
                  repeat (go_big_quiet_step (fail))
                  refine wpQuiet_nil ?_
                  intro wq hbq
                  clear hlc
                  clear q1
                  replace hM := hM.kept hbq
                  clear hbq d0 d1 d2 m0 m1
                  have HAG2 := Lib.hid (show agree f p.b fr (k + 1) from agree_step HAG.out (fun h => by rw [HX.out]; exact HBE.out))
                  have HW0 := Lib.hid (fun W (h : (atR gp 40 (pkC p)).P W) => (show W.cell? ⟨gp, 8, none⟩ = some (.string p.b) from (show At W _ _ _ from h).cell 8))
                  go_upto_region 14 with (fail)
                  refine wp_region_M [0] [17] hM (by kernel_rfl) ?_
                  clear hM
                  intro wo hM
                  refine wpI_takeP (i := 0) (v := ?_) rfl (by kernel_rfl) (by kernel_rfl) (by kernel_rfl) (by first | exact fun _ _ _ h => h | exact fun _ _ _ h => HQ0.out _ _ _ _ _ h) (Or.inl ⟨by rfl, ?hy⟩) ?_
                  case hy => (intro W; go_simp; (try with_reducible rfl))
                  simp only [Act.put, List.getElem_toArray, List.getElem_cons_succ, List.getElem_cons_zero, List.setIfInBounds_toArray, List.set_cons_zero, List.set_cons_succ]
                  refine wpI_takeP (i := 1) (v := ?_) rfl (by kernel_rfl) (by kernel_rfl) (by kernel_rfl) (by first | exact fun _ _ _ h => h | exact fun _ _ _ h => HQ0.out _ _ _ _ _ h) (Or.inl ⟨by rfl, ?hy⟩) ?_
                  case hy => (intro W; go_simp; (try with_reducible rfl))
                  simp only [Act.put, List.getElem_toArray, List.getElem_cons_succ, List.getElem_cons_zero, List.setIfInBounds_toArray, List.set_cons_zero, List.set_cons_succ]
                  refine wpI_takeP (i := 2) (v := ?_) rfl (by kernel_rfl) (by kernel_rfl) (by kernel_rfl) (by first | exact fun _ _ _ h => h | exact fun _ _ _ h => HQ0.out _ _ _ _ _ h) (Or.inl ⟨by rfl, ?hy⟩) ?_
                  case hy => (intro W; go_simp; (try with_reducible rfl))
                  simp only [Act.put, List.getElem_toArray, List.getElem_cons_succ, List.getElem_cons_zero, List.setIfInBounds_toArray, List.set_cons_zero, List.set_cons_succ]
                  refine wpI_takeP (i := 3) (v := ?_) rfl (by kernel_rfl) (by kernel_rfl) (by kernel_rfl) (by first | exact fun _ _ _ h => h | exact fun _ _ _ h => HQ0.out _ _ _ _ _ h) (Or.inl ⟨by rfl, ?hy⟩) ?_
                  case hy => (intro W; go_simp; (try with_reducible rfl))
                  simp only [Act.put, List.getElem_toArray, List.getElem_cons_succ, List.getElem_cons_zero, List.setIfInBounds_toArray, List.set_cons_zero, List.set_cons_succ]
                  refine wpI_takeP (i := 4) (v := ?_) rfl (by kernel_rfl) (by kernel_rfl) (by kernel_rfl) (by first | exact fun _ _ _ h => h | exact fun _ _ _ h => HQ0.out _ _ _ _ _ h) (Or.inl ⟨by rfl, ?hy⟩) ?_
                  case hy => (intro W; go_simp; (try with_reducible rfl))
                  simp only [Act.put, List.getElem_toArray, List.getElem_cons_succ, List.getElem_cons_zero, List.setIfInBounds_toArray, List.set_cons_zero, List.set_cons_succ]
                  refine wpI_takeT (i := 5) (v := ?_) rfl (by kernel_rfl) (by kernel_rfl) (by kernel_rfl) (by kernel_rfl) (by first | exact fun _ _ _ h => h | exact fun _ _ _ h => HQ0.out _ _ _ _ _ h) ⟨fun r hr => hM.get 0 hr, trivial⟩ (Or.inl ⟨by rfl, ?hy⟩) ?_
                  case hy => (rintro W ⟨i0, -⟩; have c0 := HW0.out W (i0 _ rfl); go_simp; (try with_reducible rfl))
                  simp only [Act.put, List.getElem_toArray, List.getElem_cons_succ, List.getElem_cons_zero, List.setIfInBounds_toArray, List.set_cons_zero, List.set_cons_succ]
                  refine wpI_takeP (i := 6) (v := ?_) rfl (by kernel_rfl) (by kernel_rfl) (by kernel_rfl) (by first | exact fun _ _ _ h => h | exact fun _ _ _ h => HQ0.out _ _ _ _ _ h) (Or.inl ⟨by rfl, ?hy⟩) ?_
                  case hy => (intro W; go_simp; (try with_reducible rfl))
                  simp only [Act.put, List.getElem_toArray, List.getElem_cons_succ, List.getElem_cons_zero, List.setIfInBounds_toArray, List.set_cons_zero, List.set_cons_succ]
                  refine wpI_takeP (i := 7) (v := ?_) rfl (by kernel_rfl) (by kernel_rfl) (by kernel_rfl) (by first | exact fun _ _ _ h => h | exact fun _ _ _ h => HQ0.out _ _ _ _ _ h) (Or.inl ⟨by rfl, ?hy⟩) ?_
                  case hy => (intro W; go_simp; (try with_reducible rfl))
                  simp only [Act.put, List.getElem_toArray, List.getElem_cons_succ, List.getElem_cons_zero, List.setIfInBounds_toArray, List.set_cons_zero, List.set_cons_succ]
                  refine wpI_takeP (i := 8) (v := ?_) rfl (by kernel_rfl) (by kernel_rfl) (by kernel_rfl) (by first | exact fun _ _ _ h => h | exact fun _ _ _ h => HQ0.out _ _ _ _ _ h) (Or.inl ⟨by rfl, ?hy⟩) ?_
                  case hy => (intro W; go_simp; (try with_reducible rfl))
                  simp only [Act.put, List.getElem_toArray, List.getElem_cons_succ, List.getElem_cons_zero, List.setIfInBounds_toArray, List.set_cons_zero, List.set_cons_succ]
                  refine wpI_takeP (i := 9) rfl (by kernel_rfl) (by kernel_rfl) (by kernel_rfl) (by first | exact fun _ _ _ h => h | exact fun _ _ _ h => HQ0.out _ _ _ _ _ h) ((show Yields _ _ _ (.int .u8 (bZ p.b x)) _ from .inl ⟨by rfl, fun W => by go_simp; unfold bZ; rw [HBT.out]⟩)) ?_
                  simp only [Act.put, List.getElem_toArray, List.getElem_cons_succ, List.getElem_cons_zero, List.setIfInBounds_toArray, List.set_cons_zero, List.set_cons_succ]
                  (try simp only [Bool.not_true, Bool.not_false])
                  refine wpI_takeP (i := 10) (v := ?_) rfl (by kernel_rfl) (by kernel_rfl) (by kernel_rfl) (by first | exact fun _ _ _ h => h | exact fun _ _ _ h => HQ0.out _ _ _ _ _ h) (Or.inl ⟨by rfl, ?hy⟩) ?_
                  case hy => (intro W; go_simp; (try with_reducible rfl))
                  simp only [Act.put, List.getElem_toArray, List.getElem_cons_succ, List.getElem_cons_zero, List.setIfInBounds_toArray, List.set_cons_zero, List.set_cons_succ]
                  refine wpI_takeP (i := 11) (v := ?_) rfl (by kernel_rfl) (by kernel_rfl) (by kernel_rfl) (by first | exact fun _ _ _ h => h | exact fun _ _ _ h => HQ0.out _ _ _ _ _ h) (Or.inl ⟨by rfl, ?hy⟩) ?_
                  case hy => (intro W; go_simp; (try with_reducible rfl))
                  simp only [Act.put, List.getElem_toArray, List.getElem_cons_succ, List.getElem_cons_zero, List.setIfInBounds_toArray, List.set_cons_zero, List.set_cons_succ]
                  refine wpI_takeP (i := 12) (v := ?_) rfl (by kernel_rfl) (by kernel_rfl) (by kernel_rfl) (by first | exact fun _ _ _ h => h | exact fun _ _ _ h => HQ0.out _ _ _ _ _ h) (Or.inl ⟨by rfl, ?hy⟩) ?_
                  case hy => (intro W; go_simp; (try with_reducible rfl))
                  simp only [Act.put, List.getElem_toArray, List.getElem_cons_succ, List.getElem_cons_zero, List.setIfInBounds_toArray, List.set_cons_zero, List.set_cons_succ]
                  refine wpI_takeP (i := 14) (v := ?_) rfl (by kernel_rfl) (by kernel_rfl) (by kernel_rfl) (by first | exact fun _ _ _ h => h | exact fun _ _ _ h => HQ0.out _ _ _ _ _ h) (Or.inl ⟨by rfl, ?hy⟩) ?_
                  case hy => (intro W; go_simp; (try with_reducible rfl))
                  simp only [Act.put, List.getElem_toArray, List.getElem_cons_succ, List.getElem_cons_zero, List.setIfInBounds_toArray, List.set_cons_zero, List.set_cons_succ]
                  refine wpI_takeP (i := 15) (v := ?_) rfl (by kernel_rfl) (by kernel_rfl) (by kernel_rfl) (by first | exact fun _ _ _ h => h | exact fun _ _ _ h => HQ0.out _ _ _ _ _ h) (Or.inl ⟨by rfl, ?hy⟩) ?_
                  case hy => (intro W; go_simp; (try with_reducible rfl))
                  simp only [Act.put, List.getElem_toArray, List.getElem_cons_succ, List.getElem_cons_zero, List.setIfInBounds_toArray, List.set_cons_zero, List.set_cons_succ]
                  refine wpI_one (i := 13) rfl (by kernel_rfl) ?_
                  (try simp only [Act.put, List.getElem_toArray, List.getElem_cons_succ, List.getElem_cons_zero, List.setIfInBounds_toArray, List.set_cons_zero, List.set_cons_succ])
                  go_wp2_with (first
                      | go_skip
                      | ((with_reducible refine at_store_ ?_); first | (refine wpList_store1_mem rfl _ _ _ rfl 1 g _ _ (4000 + k) (.bool true) hM rfl rfl rfl rfl rfl (by kernel_rfl) (HSZ.out _ _ (by omega)) ?_; clear hM; intro W hM; simp only [List.set_cons_succ, List.set_cons_zero] at hM) | (refine wpList_store1_mem rfl _ _ _ rfl 1 g _ _ k (.int .u8 (bZ p.b x)) hM rfl rfl rfl rfl rfl (by kernel_rfl) (HS3.out _ _ _ _ (by omega)) ?_; clear hM; intro W hM; simp only [List.set_cons_succ, List.set_cons_zero] at hM))
                      | ((with_reducible refine at_box_ ?_); refine wpList_box_mem rfl _ _ rfl _ rfl hM ?_; clear hM; intro gb W hM; first | (simp only [List.nil_append] at hM) | (simp only [List.cons_append, List.nil_append] at hM)))
                  refine contI_normal ⟨fun r hr => hM.get 0 hr, trivial⟩ ?_
                  (try simp only [Act.put, List.getElem_toArray, List.getElem_cons_succ, List.getElem_cons_zero, List.setIfInBounds_toArray, List.set_cons_zero, List.set_cons_succ])
                  refine wpI_takeP (i := 16) (v := ?_) rfl (by kernel_rfl) (by kernel_rfl) (by kernel_rfl) (by first | exact fun _ _ _ h => h | exact fun _ _ _ h => HQ0.out _ _ _ _ _ h) (Or.inl ⟨by rfl, ?hy⟩) ?_
                  case hy => (intro W; go_simp; (try with_reducible rfl))
                  simp only [Act.put, List.getElem_toArray, List.getElem_cons_succ, List.getElem_cons_zero, List.setIfInBounds_toArray, List.set_cons_zero, List.set_cons_succ]
                  refine wpI_one (i := 17) rfl (by kernel_rfl) ?_
                  (try simp only [Act.put, List.getElem_toArray, List.getElem_cons_succ, List.getElem_cons_zero, List.setIfInBounds_toArray, List.set_cons_zero, List.set_cons_succ])
                  go_wp2_with (first
                      | go_skip
                      | ((with_reducible refine at_store_ ?_); first | (refine wpList_store1_mem rfl _ _ _ rfl 1 g _ _ (4000 + k) (.bool true) hM rfl rfl rfl rfl rfl (by kernel_rfl) (HSZ.out _ _ (by omega)) ?_; clear hM; intro W hM; simp only [List.set_cons_succ, List.set_cons_zero] at hM) | (refine wpList_store1_mem rfl _ _ _ rfl 1 g _ _ k (.int .u8 (bZ p.b x)) hM rfl rfl rfl rfl rfl (by kernel_rfl) (HS3.out _ _ _ _ (by omega)) ?_; clear hM; intro W hM; simp only [List.set_cons_succ, List.set_cons_zero] at hM))
                      | ((with_reducible refine at_box_ ?_); refine wpList_box_mem rfl _ _ rfl _ rfl hM ?_; clear hM; intro gb W hM; first | (simp only [List.nil_append] at hM) | (simp only [List.cons_append, List.nil_append] at hM)))
                  refine contI_late (by decide) ?_
                  (try simp only [Act.put, List.getElem_toArray, List.getElem_cons_succ, List.getElem_cons_zero, List.setIfInBounds_toArray, List.set_cons_zero, List.set_cons_succ])
                  refine wpI_done (by kernel_rfl) ?_ _
                  (try simp only [Act.put, List.getElem_toArray, List.getElem_cons_succ, List.getElem_cons_zero, List.setIfInBounds_toArray, List.set_cons_zero, List.set_cons_succ])
                  rw [← HX.out] at hM
                  simp only [midF_step f2 p.b fr k hk1 hk4] at hM
                  go_wp2_with fail
                  go_roundg (tz - (k + 1))
                  case measure => have := HGK.out; omega
                  case rel => exact ⟨k + 1, rfl, by omega, by omega, by go_num, hM, HAG2⟩
                · have q1 : (f.b k != ((p.b[x].toNat : Nat) : Int)) = true := by rw [hbz]; simpa using hbe
                  have HNO := Lib.hid (show ¬ okPut f p fr from fun h => by
                    have h2 := h.2.2
                    rw [← HTO.out] at h2
                    exact agree_not hk1 hlt HHB.out.symm (by rw [HX.out]; exact hbe) h2)
                  clear hbe hbz
                  refine wp_region_later (by kernel_rfl) (by kernel_rfl) (fun hlc => ?_)
                  repeat (go_big_quiet_step (fail))
                  refine wpQuiet_nil ?_
                  intro wq hbq
                  clear hlc
                  replace hM := hM.kept hbq
                  clear hbq
                  go_wp2_with fail
                  go_ret
                  exact .inr ⟨HNO.out, rfl, hM.take_ 0⟩
            · obtain rfl : tz = k := by omega
              have HAG2 := HAG.out
              have HOK := Lib.hid (show okPut f p fr from ⟨HC1.out, HC2.out, by rw [← HTO.out]; exact HAG2⟩)
              have HPF := Lib.hid (show putF f p fr = (if fr = 0 ∧ 0 < tz ∧ f.kn = false then { midF f2 p.b fr tz with fi := p, kn := true } else midF f2 p.b fr tz) from by
                unfold putF
                rw [← HF.out, ← HTO.out]
                by_cases h : fr = 0
                · have : (0 < p.b.size) ↔ (0 < tz) := by omega
                  simp only [h, this]
                · rw [if_neg (fun x => h x.1), if_neg (fun x => h x.1)])
              have hkn : (midF f2 p.b fr tz).kn = f.kn := by show f2.kn = f.kn; rw [hf2.out]
              clear HAG2
              generalize midF f2 p.b fr tz = f3 at *
              have c1 : wr.cell? ⟨g, 8011, none⟩ = some (.bool f3.kn) := (hM.cells 1 rfl 8011).trans (fgC_t _ 11)
              rw [hkn] at c1
              obtain ⟨kn, hk0⟩ : ∃ z, z = f.kn := ⟨_, rfl⟩
              rw [← hk0] at c1
              have HKN := Lib.hid hk0
              have l1g := hM.lt 1 rfl
              clear hk0 hkn
              by_cases hfr0 : fr = 0
              · have q1 : ((fr : Int) == 0) = true := by simpa using hfr0
                by_cases ht0 : 0 < tz
                · cases kn
                  · have HP2 := Lib.hid (HPF.out.trans (if_pos ⟨hfr0, ht0, HKN.out.symm⟩))
                    clear hfr0 HPF
                    go_upto_region 16 with (fail)
                    clear c1 l1g
                    go_wp2_with (first
                      | go_skip
                      | ((with_reducible refine at_store_ (T := 40) ?_); refine wpList_stores_mem rfl 40 _ _ rfl 1 g 8002 _ _ (pkC p) hM rfl rfl rfl sz_Packet rfl (HLE.out _) ?_; clear hM; intro W hM; simp only [List.set_cons_succ, List.set_cons_zero, fgC_setfi] at hM)
                      | ((with_reducible refine at_store_ ?_); refine wpList_store1_mem rfl _ _ _ rfl 1 g _ _ 8011 (.bool true) hM rfl rfl rfl rfl rfl (by kernel_rfl) (HSZ.out _ _ (by omega)) ?_; clear hM; intro W hM; simp only [List.set_cons_succ, List.set_cons_zero, fgC_setkn] at hM)
                      | ((with_reducible refine at_box_ ?_); refine wpList_box_mem rfl _ _ rfl _ rfl hM ?_; clear hM; intro gb W hM; first | (simp only [List.nil_append] at hM) | (simp only [List.cons_append, List.nil_append] at hM))
                      | ((with_reducible refine at_alloc_ (T := 40) ?_); refine wpList_alloc_mem rfl 40 rfl _ zv_Packet _ rfl hM ?_; clear hM; intro gb W hM; first | (simp only [List.nil_append] at hM) | (simp only [List.cons_append, List.nil_append] at hM))
                      | ((with_reducible refine at_load_ (T := 40) ?_); refine at_wanted_ (by rfl) ?_; refine wpList_loadg_mem (by go_simp) 40 _ rfl 0 _ _ _ hM rfl rfl _ Try.underlying40 rfl sz_Packet ?_)
                      | ((with_reducible refine at_store_ (T := 40) ?_); refine wpList_store_mem rfl 40 _ _ rfl 0 _ _ _ _ hM rfl rfl rfl rfl sz_Packet rfl ?_; clear hM; intro W hM; simp only [List.set_cons_zero] at hM))
                    go_ret
                    refine .inl ⟨HOK.out, rfl, ?_⟩
                    rw [HP2.out]
                    exact (show MemX E w _ ([_] ++ [wR g { f3 with fi := p, kn := true }]) from hM).drop_
                  · have HP2 := Lib.hid (HPF.out.trans (if_neg (fun h => by have := h.2.2; rw [← HKN.out] at this; cases this)))
                    clear hfr0 HPF
                    go_wp2_with fail
                    go_ret
                    refine .inl ⟨HOK.out, rfl, ?_⟩
                    rw [HP2.out]
                    exact (show MemX E w _ ([_] ++ [wR g f3]) from hM).drop_
                · have q2 : decide (0 < tz) = false := by simpa using ht0
                  have HP2 := Lib.hid (HPF.out.trans (if_neg (fun h => ht0 h.2.1)))
                  clear hfr0 ht0 HPF
                  go_wp2_with fail
                  go_ret
                  refine .inl ⟨HOK.out, rfl, ?_⟩
                  rw [HP2.out]
                  exact (show MemX E w _ ([_] ++ [wR g f3]) from hM).drop_
              · have q1 : ((fr : Int) == 0) = false := by simpa using hfr0
                have HP2 := Lib.hid (HPF.out.trans (if_neg (fun h => hfr0 h.1)))
                clear hfr0 HPF
                go_wp2_with fail
                go_ret
                refine .inl ⟨HOK.out, rfl, ?_⟩
                rw [HP2.out]
                exact (show MemX E w _ ([_] ++ [wR g f3]) from hM).drop_
        · have HNO := Lib.hid (show ¬ okPut f p fr from fun h => HBD.out.1 rfl h.2.1)
          go_wp2_with fail
          go_ret
          exact .inr ⟨HNO.out, rfl, hM.take_ 0⟩

end Go.Proofs.Ytmcdmgnpbhkdhaa
