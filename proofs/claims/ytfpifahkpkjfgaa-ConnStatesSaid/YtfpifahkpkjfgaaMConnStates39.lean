/- What ConnStates needs, part 39: WConnStates. -/
import Derived.Deep.CutBlock
import Derived.Test.YtfpifahkpkjfgaaMConnStates38
/- The walk of ConnStates: it returns true. Written by my gencm.py. -/
namespace Go.Proofs.Ytfpifahkpkjfgaa
open Go.RowKit Go.Lib
set_option linter.unusedVariables false
set_option linter.unusedSimpArgs false
set_option maxRecDepth 100000

set_option maxHeartbeats 16000000 in
theorem w_ConnStates (a0a : Int) (a0b : Int) (a1a : Int) (a1b : Int) (a2 : Int) (a3 : Int) (A4 : Option Addr) (n4 c4 : Nat) (css4 : Nat → List Value) (w : World) (ha0a : 0 ≤ a0a) (ha0a' : a0a ≤ 4294967295) (ha0b : -9223372036854775808 ≤ a0b) (ha0b' : a0b ≤ 9223372036854775807) (ha1a : 0 ≤ a1a) (ha1a' : a1a ≤ 4294967295) (ha1b : -9223372036854775808 ≤ a1b) (ha1b' : a1b ≤ 9223372036854775807) (ha2 : 0 ≤ a2) (ha2' : a2 ≤ 4294967295) (ha3 : -9223372036854775808 ≤ a3) (ha3' : a3 ≤ 9223372036854775807) (hR4 : Rows_ w A4 n4 ksStep css4) (hl4 : n4 ≤ 469124961170) :
    Calls Try.prog 8 #[.agg #[.int .u32 a0a, .int .i64 a0b], .agg #[.int .u32 a1a, .int .i64 a1b], .int .u32 a2, .int .i64 a3, .slice A4 n4 c4] w fun e w' => e = .returned (.bool true) ∧ Below w.heap.size w w' := by
  have hM := Mem.nil w
  have HD2 := Lib.hid (fun W => Dial_no 0 0 0 0 0 0 W (by decide) (by decide) (by decide))
  by_cases hv : (1 ≤ a0b ∧ a0b ≤ 65535) ∧ (1 ≤ a1b ∧ a1b ≤ 65535) ∧ 8 ≤ a3 ∧ a3 ≤ 1000
  · have HD := Lib.hid (fun W => Dial_ok a0a a0b a1a a1b a2 a3 W hv.1 hv.2.1 hv.2.2)
    have HCI := Lib.hid (CI.begin a0a a0b a1a a1b a2 a3 ⟨ha2, ha2'⟩ hv.2.2)
    have HL := Lib.hid hl4
    clear hv ha0a ha0a' ha0b ha0b' ha1a ha1a' ha1b ha1b' ha2 ha2' ha3 ha3'
    go_enter Try.func8, Try.ntmps8
    go_upto_region 2 with (first | go_skip | ((with_reducible refine at_box_ ?_); refine wpList_box_mem rfl _ _ rfl _ rfl hM ?_; clear hM; intro gb W hM; first | (simp only [List.nil_append] at hM) | (simp only [List.cons_append, List.nil_append] at hM)) | ((with_reducible refine at_load_ (T := 29) ?_); first | (refine wpList_loadg_mem (by go_simp) 29 _ rfl 0 _ _ [.int .u32 a0a, .int .i64 a0b] hM rfl rfl _ Try.underlying29 rfl sz_End ?_) | (refine wpList_loadg_mem (by go_simp) 29 _ rfl 1 _ _ [.int .u32 a1a, .int .i64 a1b] hM rfl rfl _ Try.underlying29 rfl sz_End ?_)) | (go_at_call 14; refine (HD.out _).mono ?_; rintro e W ⟨gc, go, gt, rfl, hN⟩; replace hM := hM.new_ hN; clear hN; dsimp only))
    obtain ⟨c0, hc0⟩ : ∃ z : KCn, z = { cNew a0a a0b a1a a1b a2 a3 with st := 1 } := ⟨_, rfl⟩
    obtain ⟨k0, hk0⟩ : ∃ z : KPt, z = kNew go gt := ⟨_, rfl⟩
    have HK0 := Lib.hid (show KOk k0 0 0 c0.h from by rw [hc0, hk0]; exact ⟨rfl, rfl⟩)
    rw [← hc0] at HCI
    have hM2 : Mem w W ([_, _] ++ cnL gc 0 0 c0 k0 []) := MemX.perm (show Mem w W (cnL gc 0 0 c0 k0 [] ++ [_, _]) from by rw [hc0, hk0]; exact hM) List.perm_append_comm
    have hM3 := hM2.drop_
    clear hM hM2 hc0 hk0 HD
    have hM := hM3
    clear hM3
    go_upto_region 7 with (first | go_skip | (go_at_call 14; refine (HD2.out _).mono ?_; rintro e W ⟨rfl, hb⟩; replace hM := hM.kept hb; clear hb; dsimp only))
    (go_wp2_with fail)
    go_loopg [50] n4 (fun gh i wr => ∃ (k : Nat) (gi gw : Nat) (c : KCn) (kp : KPt), gh = n4 - k ∧ k ≤ n4 ∧ i = .int .i64 k ∧ Mem w wr (cnL gc gi gw c kp []) ∧ Hid (CI c k ∧ KOk kp gi gw c.h))
    case atStart => exact ⟨0, 0, 0, c0, k0, by omega, by omega, rfl, hM, Lib.hid ⟨HCI.out, HK0.out⟩⟩
    case round =>
      clear hM
      obtain ⟨k, gi, gw, c, kp, hgk, hk, rfl, hM, HR⟩ := hrel
      have HGK := Lib.hid hgk
      clear hgk
      by_cases hlt : k < n4
      · have hBk := hM.b
        obtain ⟨b, off, hA, hrg⟩ := hR4.at_ k hlt
        subst hA
        have hrg : wr.rangeAt b (off + k * 45) (css4 k) := range_kept hrg hBk
        have hokx := hR4.ok k hlt
        have hlen : (css4 k).length = 45 := okAll_len hokx
        have hone := all_oneCell_toArray (okAll_one hokx)
        have hi1 : (Try.prog.info? 70).map (·.size) = some (css4 k).length := by rw [hlen]; exact info_Step
        have hi2 : (Try.prog.info? 70).map (·.size) = some (css4 k).toArray.size := by rw [List.size_toArray]; exact hi1
        go_upto_region 10 with (first | (refine wpList_load_mid rfl 70 (.tmp 52) rfl b (off + k * 45) rfl (css4 k) _ hrg Try.underlying70 rfl hi1 ?_) | (refine wpList_store_mid rfl 70 (.tmp 16) (.tmp 53) rfl _ 0 (css4 k).toArray rfl rfl (there_new _ _ _ _ (by rw [List.size_toArray, hlen]; exact Nat.le_refl _)) hi2 hone ?_))
        refine wp_gen (fun W => MemX noE w W ((cnL gc gi gw c kp []) ++ [atR wr.heap.size 70 (css4 k)])) ?hgen ?_
        case hgen => (refine hM.boxed _ _ _ ?_; rw [hlen]; rfl)
        intro W2 hM2
        obtain ⟨kd, hkd, hkd1, hkd2⟩ := step_int hokx 0 rfl
        obtain ⟨xa, hxa, hxa1, hxa2⟩ := step_int hokx 1 rfl
        obtain ⟨xs, hxs, hxs1⟩ := step_str hokx 4 rfl
        obtain ⟨g, hg, hgk⟩ := step_seg hokx
        have hM3 : MemX noE w W2 (atR wr.heap.size 70 (css4 k) :: cnL gc gi gw c kp []) := hM2.perm List.perm_append_comm
        clear hM hM2
        have hM := hM3
        clear hM3
        have HG := Lib.hid hg
        have HXA := Lib.hid hxa
        have HXS := Lib.hid hxs
        have HJ := Lib.hid (show (k : Int) ≤ 999999999990 from by have := HL.out; omega)
        have HT := Lib.hid (fun (W : World) h => cs_tick (E := noE) (w0 := w) gc gi gw c kp (atR wr.heap.size 70 (css4 k)) k W h HR.out.2 HR.out.1 HJ.out xa hxa1 hxa2)
        have HWR := Lib.hid (fun (W : World) h => cs_write (E := noE) (w0 := w) gc gi gw c kp (atR wr.heap.size 70 (css4 k)) k W h HR.out.2 HR.out.1 HJ.out xs hxs1)
        have HCLO := Lib.hid (fun (W : World) h => cs_close (E := noE) (w0 := w) gc gi gw c kp (atR wr.heap.size 70 (css4 k)) k W h HR.out.2 HR.out.1 HJ.out)
        have HO := Lib.hid (fun (W : World) h => cs_out (E := noE) (w0 := w) gc gi gw c kp (atR wr.heap.size 70 (css4 k)) k W h HR.out.2 HR.out.1 HJ.out)
        have HIN := Lib.hid (fun (W : World) h => cs_in (E := noE) (w0 := w) gc gi gw c kp (atR wr.heap.size 70 (css4 k)) k W h HR.out.2 HR.out.1 HJ.out g hgk)
        have HOF := Lib.hid (fun (W : World) => Of_any (css4 k) kd 6 W hkd hkd1 hkd2 (by omega) (by omega))
        have HCE := Lib.hid (HR.out.1.close).2.2.2
        have HIE := Lib.hid (HR.out.1.in_ (by have := HJ.out; omega) g hgk).2.2.2
        have hd : kd % 6 = 0 ∨ kd % 6 = 1 ∨ kd % 6 = 2 ∨ kd % 6 = 3 ∨ kd % 6 = 4 ∨ kd % 6 = 5 := by omega
        have HDD := Lib.hid hd
        clear hd hkd hkd1 hkd2 hxa hxa1 hxa2 hxs hxs1 hg hgk hBk hokx hlen hrg hone hi2
        go_upto_block 2 with (first | go_skip | (go_at_call 16; refine (State_any gc c kp _ (hM.at_ 3 rfl)).mono ?_; rintro e W ⟨rfl, rfl⟩; dsimp only) | (go_at_call 17; refine (Why_any gc c kp _ (hM.at_ 3 rfl)).mono ?_; rintro e W ⟨rfl, rfl⟩; dsimp only) | (refine wpList_load_mid rfl 70 (.tmp 16) rfl wr.heap.size 0 rfl (css4 k) _ (hM.range 0 rfl) Try.underlying70 rfl hi1 ?_) | (go_at_call 28; refine (HOF.out _).mono ?_; rintro e W ⟨rfl, hb⟩; replace hM := hM.kept hb; clear hb; dsimp only))
        clear HOF
        obtain ⟨m, hm⟩ : ∃ z, z = kd % 6 := ⟨_, rfl⟩
        rw [← hm] at HDD ⊢
        clear hm
        go_cut [] (fun W => ∃ gi' gw' c' k', MemX noE w W (atR wr.heap.size 70 (css4 k) :: cnL gc gi' gw' c' k' []) ∧ Hid (CsR c k gi' gw' c' k'))
        case first =>
          have hd := HDD.out
          clear HDD
          rcases hd with rfl | rfl | rfl | rfl | rfl | rfl
          · go_wp2_with (first | go_skip | ((with_reducible refine at_load_ ?_); refine at_wanted_ (by rfl) ?_; refine wpList_loadf_mem (by go_simp) _ _ rfl (by kernel_rfl) 0 _ _ _ _ _ hM rfl rfl (by first | exact HXA.out | rfl) ?_) | (go_at_call 18; refine (HT.out _ hM).mono ?_; clear hM; rintro e W ⟨x, gi', gw', c', k', rfl, hM, hR'⟩; have HR' := Lib.hid hR'; clear hR'; dsimp only))
            go_meet
            case rel => exact ⟨gi', gw', c', k', hM, HR'⟩
          · go_wp2_with (first | go_skip | ((with_reducible refine at_load_ ?_); refine at_wanted_ (by rfl) ?_; refine wpList_loadf_mem (by go_simp) _ _ rfl (by kernel_rfl) 0 _ _ _ _ _ hM rfl rfl (by first | exact HXS.out | rfl) ?_) | (go_at_call 23; refine (HWR.out _ hM).mono ?_; clear hM; rintro e W ⟨x, gi', gw', c', k', rfl, hM, hR'⟩; have HR' := Lib.hid hR'; clear hR'; dsimp only))
            go_meet
            case rel => exact ⟨gi', gw', c', k', hM, HR'⟩
          · by_cases hx : (cClose c).2 = 10
            · have tx : ((cClose c).2 == 10) = true := by simpa using hx
              have ts : (c.st != 0) = false := by simpa using HCE.out hx
              clear hx
              go_wp2_with (first | go_skip | (go_at_call 29; refine (HCLO.out _ hM).mono ?_; clear hM; rintro e W ⟨gi', gw', c', k', rfl, hM, hR'⟩; have HR' := Lib.hid hR'; clear hR'; dsimp only))
              go_meet
              case rel => exact ⟨gi', gw', c', k', hM, HR'⟩
            · have tx : ((cClose c).2 == 10) = false := by simpa using hx
              clear hx
              go_wp2_with (first | go_skip | (go_at_call 29; refine (HCLO.out _ hM).mono ?_; clear hM; rintro e W ⟨gi', gw', c', k', rfl, hM, hR'⟩; have HR' := Lib.hid hR'; clear hR'; dsimp only))
              go_meet
              case rel => exact ⟨gi', gw', c', k', hM, HR'⟩
          · go_wp2_with (first | go_skip | (go_at_call 15; refine (HO.out _ hM).mono ?_; clear hM; rintro e W ⟨x, gi', gw', c', k', rfl, hM, hR', -⟩; have HR' := Lib.hid hR'; clear hR'; dsimp only))
            go_meet
            case rel => exact ⟨gi', gw', c', k', hM, HR'⟩
          · by_cases hx : cInE c g = 10
            · have tx : (cInE c g == 10) = true := by simpa using hx
              have ts : (c.st != 0) = false := by simpa using HIE.out hx
              clear hx
              go_wp2_with (first | go_skip | ((with_reducible refine at_load_ (T := 33) ?_); refine wpList_loads_mem (by go_simp) _ _ rfl 0 _ 16 _ _ (cSeg g) hM rfl rfl HG.out _ Try.underlying33 rfl sz_Seg ?_) | (go_at_call 19; refine (HIN.out _ hM).mono ?_; clear hM; rintro e W ⟨gi', gw', c', k', rfl, hM, hR'⟩; have HR' := Lib.hid hR'; clear hR'; dsimp only))
              go_meet
              case rel => exact ⟨gi', gw', c', k', hM, HR'⟩
            · have tx : (cInE c g == 10) = false := by simpa using hx
              clear hx
              go_wp2_with (first | go_skip | ((with_reducible refine at_load_ (T := 33) ?_); refine wpList_loads_mem (by go_simp) _ _ rfl 0 _ 16 _ _ (cSeg g) hM rfl rfl HG.out _ Try.underlying33 rfl sz_Seg ?_) | (go_at_call 19; refine (HIN.out _ hM).mono ?_; clear hM; rintro e W ⟨gi', gw', c', k', rfl, hM, hR'⟩; have HR' := Lib.hid hR'; clear hR'; dsimp only))
              go_meet
              case rel => exact ⟨gi', gw', c', k', hM, HR'⟩
          · by_cases hx : cInE c g = 10
            · have tx : (cInE c g == 10) = true := by simpa using hx
              have ts : (c.st != 0) = false := by simpa using HIE.out hx
              clear hx
              go_wp2_with (first | go_skip | ((with_reducible refine at_load_ (T := 33) ?_); refine wpList_loads_mem (by go_simp) _ _ rfl 0 _ 16 _ _ (cSeg g) hM rfl rfl HG.out _ Try.underlying33 rfl sz_Seg ?_) | (go_at_call 19; refine (HIN.out _ hM).mono ?_; clear hM; rintro e W ⟨gi', gw', c', k', rfl, hM, hR'⟩; have HR' := Lib.hid hR'; clear hR'; dsimp only))
              go_meet
              case rel => exact ⟨gi', gw', c', k', hM, HR'⟩
            · have tx : (cInE c g == 10) = false := by simpa using hx
              clear hx
              go_wp2_with (first | go_skip | ((with_reducible refine at_load_ (T := 33) ?_); refine wpList_loads_mem (by go_simp) _ _ rfl 0 _ 16 _ _ (cSeg g) hM rfl rfl HG.out _ Try.underlying33 rfl sz_Seg ?_) | (go_at_call 19; refine (HIN.out _ hM).mono ?_; clear hM; rintro e W ⟨gi', gw', c', k', rfl, hM, hR'⟩; have HR' := Lib.hid hR'; clear hR'; dsimp only))
              go_meet
              case rel => exact ⟨gi', gw', c', k', hM, HR'⟩
        case rest =>
          clear hM HT HWR HCLO HO HIN HCE HIE HDD
          obtain ⟨gi', gw', c', k', hM, HR'⟩ := hcut
          have HFO := Lib.hid (fun (W : World) => follows_yes c.st c'.st W HR'.out.2.2.1)
          have HWY := Lib.hid HR'.out.2.2.2
          have HW0 := Lib.hid HR'.out.1.wy
          go_upto_region 24 with (fail)
          go_cut [119] (fun v W => v = .bool false ∧ MemX noE w W (atR wr.heap.size 70 (css4 k) :: cnL gc gi' gw' c' k' []))
          case first =>
            by_cases h1 : c'.st = 0
            · have t1 : (c'.st != 0) = false := by simpa using h1
              clear h1
              by_cases h0 : c.st = 0
              · have t0 : (c.st == 0) = true := by simpa using h0
                have ty : (c'.why != c.why) = false := by simpa using HWY.out h0
                clear h0
                go_wp2_with (first | go_skip | (go_at_call 16; refine (State_any gc c' k' _ (hM.at_ 3 rfl)).mono ?_; rintro e W ⟨rfl, rfl⟩; dsimp only) | (go_at_call 17; refine (Why_any gc c' k' _ (hM.at_ 3 rfl)).mono ?_; rintro e W ⟨rfl, rfl⟩; dsimp only) | (go_at_call 30; refine (HFO.out _).mono ?_; rintro e W ⟨rfl, rfl⟩; dsimp only))
                go_meet
                case rel => exact ⟨rfl, hM⟩
              · have t0 : (c.st == 0) = false := by simpa using h0
                clear h0
                go_wp2_with (first | go_skip | (go_at_call 16; refine (State_any gc c' k' _ (hM.at_ 3 rfl)).mono ?_; rintro e W ⟨rfl, rfl⟩; dsimp only) | (go_at_call 17; refine (Why_any gc c' k' _ (hM.at_ 3 rfl)).mono ?_; rintro e W ⟨rfl, rfl⟩; dsimp only) | (go_at_call 30; refine (HFO.out _).mono ?_; rintro e W ⟨rfl, rfl⟩; dsimp only))
                go_meet
                case rel => exact ⟨rfl, hM⟩
            · have t1 : (c'.st != 0) = true := by simpa using h1
              have ty1 : (c'.why != 0) = false := by simpa using HW0.out h1
              clear h1
              by_cases h0 : c.st = 0
              · have t0 : (c.st == 0) = true := by simpa using h0
                have ty : (c'.why != c.why) = false := by simpa using HWY.out h0
                clear h0
                go_wp2_with (first | go_skip | (go_at_call 16; refine (State_any gc c' k' _ (hM.at_ 3 rfl)).mono ?_; rintro e W ⟨rfl, rfl⟩; dsimp only) | (go_at_call 17; refine (Why_any gc c' k' _ (hM.at_ 3 rfl)).mono ?_; rintro e W ⟨rfl, rfl⟩; dsimp only) | (go_at_call 30; refine (HFO.out _).mono ?_; rintro e W ⟨rfl, rfl⟩; dsimp only))
                go_meet
                case rel => exact ⟨rfl, hM⟩
              · have t0 : (c.st == 0) = false := by simpa using h0
                clear h0
                go_wp2_with (first | go_skip | (go_at_call 16; refine (State_any gc c' k' _ (hM.at_ 3 rfl)).mono ?_; rintro e W ⟨rfl, rfl⟩; dsimp only) | (go_at_call 17; refine (Why_any gc c' k' _ (hM.at_ 3 rfl)).mono ?_; rintro e W ⟨rfl, rfl⟩; dsimp only) | (go_at_call 30; refine (HFO.out _).mono ?_; rintro e W ⟨rfl, rfl⟩; dsimp only))
                go_meet
                case rel => exact ⟨rfl, hM⟩
          case rest =>
            clear hM
            obtain ⟨rfl, hM⟩ := hcut
            have hM3 := (show MemX noE w _ ([_] ++ cnL gc gi' gw' c' k' []) from hM).drop_
            clear hM
            (go_wp2_with fail)
            go_roundg (n4 - (k + 1))
            case measure => have := HGK.out; omega
            case rel => exact ⟨k + 1, gi', gw', c', k', rfl, by omega, by go_num, hM3, Lib.hid ⟨by have h := HR'.out.1; rw [show ((k + 1 : Nat) : Int) = (k : Int) + 1 by omega]; exact h, HR'.out.2.1⟩⟩
      · obtain rfl : n4 = k := by omega
        have hb := HR.out.1.bd (by have := HL.out; omega)
        have hr := HR.out.1.rsl
        have hl := HL.out
        have hco := HR.out.1.out
        by_cases h0 : c.st = 0
        · have t0 : (c.st == 0) = true := by simpa using h0
          have HO1 := Lib.hid (fun (W : World) h => out_all (E := noE) (w0 := w) gc gi gw c kp [] W h HR.out.2 (HR.out.1.cok (by omega)) (by omega) HR.out.1.rsu)
          obtain ⟨c1, hc1⟩ : ∃ z, z = (cOut c).1 := ⟨_, rfl⟩
          rw [← hc1] at HO1 hco
          have hs1 : c1.st = 0 := hco.2.1.trans h0
          have HO2 := Lib.hid (fun (W : World) (k' : KPt) (hk : KOk k' gi gw c1.h) h => (by
            have h2 := out_all (E := noE) (w0 := w) gc gi gw c1 k' [] W h hk (hco.1.cok (by omega)) (by rw [hco.2.2.2]; exact Nat.zero_le _) hco.1.rsu
            rw [cOut_quiet hs1 hco.2.2.2] at h2
            exact h2 : Calls Try.prog 15 #[.pointer (some ⟨gc, 0, none⟩)] W fun e w' => ∃ v k', e = .returned v ∧ MemX noE w w' (rowR 13 cSeg v [] :: cnL gc gi gw c1 k' []) ∧ KOk k' gi gw c1.h))
          have HAB := Lib.hid (fun (W : World) (k' : KPt) (hk : KOk k' gi gw c1.h) h => (by
            have h2 := cAbort_any (E := noE) (w0 := w) gc gi gw c1 k' [] W h hk hco.1.o (by have := (hco.1.bd (by omega)).1; omega) (by rw [hco.2.2.2]; decide)
            rw [show (cAbort c1).2 = 10 from by unfold cAbort; rw [if_pos hs1]] at h2
            exact h2 : Calls Try.prog 25 #[.pointer (some ⟨gc, 0, none⟩)] W fun e w' => ∃ k', e = .returned (.int .i64 10) ∧ MemX noE w w' (cnL gc gi gw (cAbort c1).1 k' []) ∧ KOk k' gi gw (cAbort c1).1.h))
          clear h0 hco hb hr hl hc1 hs1 hlt
          go_upto_region 29 with (first | go_skip | (go_at_call 16; refine (State_any gc c kp _ (hM.at_ 2 rfl)).mono ?_; rintro e W ⟨rfl, rfl⟩; dsimp only) | (go_at_call 15; refine (HO1.out _ hM).mono ?_; clear hM; rintro e W ⟨v, k1, rfl, hM, hK⟩; have HK1 := Lib.hid hK; clear hK; replace hM := (show MemX noE w W ([_] ++ _) from hM).drop_; dsimp only))
          go_wp2_with (first | go_skip | (go_at_call 15; refine (HO2.out _ _ HK1.out hM).mono ?_; clear hM; rintro e W ⟨v2, k2, rfl, hM, hK⟩; have HK2 := Lib.hid hK; clear hK; obtain ⟨A2, q2, hv2⟩ := (hM.row (f := cSeg) (rs := []) 0 rfl).form; replace hv2 : v2 = .slice A2 0 q2 := hv2; subst hv2; replace hM := (show MemX noE w W ([_] ++ _) from hM).drop_; dsimp only) | (go_at_call 25; refine (HAB.out _ _ HK2.out hM).mono ?_; clear hM; rintro e W ⟨k3, rfl, hM, -⟩; dsimp only))
          refine bodyPost_ret (v := .bool true) (by simp [results, Try.results8, go_sem]) rfl ?_
          exact ⟨rfl, hM.b⟩
        · have t0 : (c.st == 0) = false := by simpa using h0
          have hab := abort_is h0
          have HAB := Lib.hid (fun (W : World) h => (by
            have h2 := cAbort_any (E := noE) (w0 := w) gc gi gw c kp [] W h HR.out.2 HR.out.1.o (by omega) (by omega)
            rw [hab.1] at h2
            exact h2 : Calls Try.prog 25 #[.pointer (some ⟨gc, 0, none⟩)] W fun e w' => ∃ k', e = .returned (.int .i64 0) ∧ MemX noE w w' (cnL gc gi gw (cAbort c).1 k' []) ∧ KOk k' gi gw (cAbort c).1.h))
          have HST := Lib.hid (fun (W : World) (k' : KPt) h => (by have h2 := State_any gc (cAbort c).1 k' W h; rw [hab.2.1] at h2; exact h2 : Calls Try.prog 16 #[.pointer (some ⟨gc, 0, none⟩)] W fun e w' => e = .returned (.int .i64 0) ∧ W = w'))
          have HWY := Lib.hid (fun (W : World) (k' : KPt) h => (by have h2 := Why_any gc (cAbort c).1 k' W h; rw [hab.2.2] at h2; exact h2 : Calls Try.prog 17 #[.pointer (some ⟨gc, 0, none⟩)] W fun e w' => e = .returned (.int .i64 17) ∧ W = w'))
          clear h0 hco hb hr hl hlt hab
          go_upto_region 30 with (first | go_skip | (go_at_call 16; refine (State_any gc c kp _ (hM.at_ 2 rfl)).mono ?_; rintro e W ⟨rfl, rfl⟩; dsimp only))
          go_wp2_with (first | go_skip | (go_at_call 25; refine (HAB.out _ hM).mono ?_; clear hM; rintro e W ⟨k3, rfl, hM, -⟩; dsimp only) | (go_at_call 16; refine (HST.out _ k3 (hM.at_ 2 rfl)).mono ?_; rintro e W ⟨rfl, rfl⟩; dsimp only) | (go_at_call 17; refine (HWY.out _ k3 (hM.at_ 2 rfl)).mono ?_; rintro e W ⟨rfl, rfl⟩; dsimp only))
          refine bodyPost_ret (v := .bool true) (by simp [results, Try.results8, go_sem]) rfl ?_
          exact ⟨rfl, hM.b⟩
  · have HD := Lib.hid (fun W => Dial_no a0a a0b a1a a1b a2 a3 W ⟨ha0b, ha0b'⟩ ⟨ha1b, ha1b'⟩ hv)
    clear hv
    go_enter Try.func8, Try.ntmps8
    go_upto_region 2 with (first | go_skip | ((with_reducible refine at_box_ ?_); refine wpList_box_mem rfl _ _ rfl _ rfl hM ?_; clear hM; intro gb W hM; first | (simp only [List.nil_append] at hM) | (simp only [List.cons_append, List.nil_append] at hM)) | ((with_reducible refine at_load_ (T := 29) ?_); first | (refine wpList_loadg_mem (by go_simp) 29 _ rfl 0 _ _ [.int .u32 a0a, .int .i64 a0b] hM rfl rfl _ Try.underlying29 rfl sz_End ?_) | (refine wpList_loadg_mem (by go_simp) 29 _ rfl 1 _ _ [.int .u32 a1a, .int .i64 a1b] hM rfl rfl _ Try.underlying29 rfl sz_End ?_)) | (go_at_call 14; refine (HD.out _).mono ?_; rintro e W ⟨rfl, hb⟩; replace hM := hM.kept hb; clear hb; dsimp only))
    go_wp2_with (first | go_skip | (go_at_call 14; refine (HD2.out _).mono ?_; rintro e W ⟨rfl, hb⟩; replace hM := hM.kept hb; clear hb; dsimp only))
    go_ret
    exact ⟨rfl, hM.b⟩
end Go.Proofs.Ytfpifahkpkjfgaa
