/- The walk of FragLate: it returns true. -/
import Derived.Test.YtmcdmgnpbhkdhaaFgZ
import Derived.Test.YtmcdmgnpbhkdhaaRest
import Derived.Test.YtmcdmgnpbhkdhaaKit
import Derived.Test.YtmcdmgnpbhkdhaaDat
import Derived.Deep.CutBlock
namespace Go.Proofs.Ytmcdmgnpbhkdhaa
open Go.RowKit Go.Lib
set_option linter.unusedVariables false
set_option linter.unusedSimpArgs false

set_option maxRecDepth 100000 in
set_option maxHeartbeats 8000000 in
theorem w_FragLate (A0 : Option Addr) (n0 c0 : Nat) (css0 : Nat → List Value) (a1 : Int) (w : World) (hR0 : Rows_ w A0 n0 ksStep css0) (hl0 : n0 ≤ 140737488351232) (ha1 : -9223372036854775808 ≤ a1) (ha1' : a1 ≤ 9223372036854775807) :
    Calls Try.prog 9 #[.slice A0 n0 c0, .int .i64 a1] w fun e w' => e = .returned (.bool true) ∧ Below w.heap.size w w' := by
  go_enter Try.func9, Try.ntmps9
  go_upto_region 2 with (first | go_skip | (go_at_call 34; refine (newfrag_any _).mono ?_; rintro e W ⟨g, gm, rfl, hM⟩; dsimp only))
  go_upto_region 4 with (first | go_skip | (go_at_call 35; refine (Tick_neg g gm [] (-1) _ (fg_hand [] hM) (by decide)).mono ?_; rintro e W ⟨rfl, hM6⟩; replace hM := fg_back [] hM hM6; clear hM6; dsimp only))
  replace hM : Mem w W (fgL g gm []) := hM
  go_wp2_with fail
  go_loopg [19] n0 (fun gh i wr => ∃ (k : Nat) (es : List FE), gh = n0 - k ∧ k ≤ n0 ∧ i = .int .i64 k ∧ Mem w wr (fgL g gm es) ∧ Hid (FInv es) ∧ Hid (AgeIs 0 es))
  case atStart => exact ⟨0, [], by omega, by omega, rfl, hM, Lib.hid finv_nil, Lib.hid (fun x hx => by cases hx)⟩
  case round =>
    clear hM
    obtain ⟨k, es, hgk, hk, rfl, hM, HI, HA⟩ := hrel
    have HGK := Lib.hid hgk
    clear hgk
    by_cases hlt : k < n0
    · have hBk := hM.b
      obtain ⟨b, off, hA, hrg⟩ := hR0.at_ k hlt
      subst hA
      have hrg : wr.rangeAt b (off + k * 45) (css0 k) := range_kept hrg hBk
      have hokx := hR0.ok k hlt
      have hlen : (css0 k).length = 45 := okAll_len hokx
      have hone := all_oneCell_toArray (okAll_one hokx)
      have hi1 : (Try.prog.info? 50).map (·.size) = some (css0 k).length := by rw [hlen]; exact info_Step
      have hi2 : (Try.prog.info? 50).map (·.size) = some (css0 k).toArray.size := by rw [List.size_toArray]; exact hi1
      go_upto_region 7 with (first | (refine wpList_load_mid rfl 50 (.tmp 21) rfl b (off + k * 45) rfl (css0 k) _ hrg Try.underlying50 rfl hi1 ?_) | (refine wpList_store_mid rfl 50 (.tmp 7) (.tmp 22) rfl _ 0 (css0 k).toArray rfl rfl (there_new _ _ _ _ (by rw [List.size_toArray, hlen]; exact Nat.le_refl _)) hi2 hone ?_))
      refine wp_gen (fun W => MemX noE w W ((fgL g gm es) ++ [atR wr.heap.size 50 (css0 k)])) ?hgen ?_
      case hgen => (refine hM.boxed _ _ _ ?_; rw [hlen]; rfl)
      intro W2 hM2
      obtain ⟨p, hL, hpk⟩ := step_pkt hokx
      have HL := Lib.hid hL
      replace hM2 := fg_last hM2
      have hM3 : Mem w W2 ([atR wr.heap.size 50 (css0 k)] ++ fgL g gm es) := hM2
      clear hM hM2 hBk
      have hM := hM3
      clear hM3
      generalize wr.heap.size = gx at *
      replace hM : Mem w W2 (atR gx 50 (css0 k) :: fgL g gm es) := hM
      go_upto_region 8 with (first | go_skip | ((with_reducible refine at_load_ (T := 40) ?_); refine wpList_loads_mem (by go_simp) _ _ rfl 0 _ 7 _ _ (pkC p) hM rfl rfl hpk _ Try.underlying40 rfl sz_Packet ?_) | (go_at_call 36; refine (In_any g gm es p _ (fg_hand [_] hM) HI.out HL.out).mono ?_; rintro e W ⟨r, is, er, es', rfl, hM6, hI', hR'⟩; replace hM := (fg_back [_] hM hM6).drop_; clear hM6; dsimp only))
      have HI' := Lib.hid hI'
      have HA' := Lib.hid (age_in HA.out hR')
      have hl8 := hI'.len
      clear hI' hR'
      obtain ⟨L, hLn⟩ : ∃ L, L = es'.length := ⟨_, rfl⟩
      have HO := Lib.hid (fun W h => Open_any g gm es' W h HI'.out.len)
      rw [← hLn] at HO hl8
      clear hLn
      have q1 : decide (8 < (L : Int)) = false := by simp; omega
      have q2 : decide ((L : Int) < 0) = false := by simp
      go_wp2_with (first | go_skip | (go_at_call 37; refine (HO.out _ (fg_hand [] hM)).mono ?_; rintro e W ⟨rfl, hM6⟩; replace hM := fg_back [] hM hM6; clear hM6; dsimp only))
      go_roundg (n0 - (k + 1))
      case measure => have := HGK.out; omega
      case rel => exact ⟨k + 1, es', rfl, by omega, by go_num, hM, HI', HA'⟩
    · have hl8 := HI.out.len
      obtain ⟨n, hn⟩ : ∃ n, n = a1 % 30 := ⟨_, rfl⟩
      have hn1 : 0 ≤ n := by omega
      have hn2 : n < 30 := by omega
      have hT := age_tick HA.out hn2
      have HE := Lib.hid (age_end hT.2)
      have HIT := Lib.hid (HI.out.tickE hn1)
      have hln := hT.1
      obtain ⟨et, het⟩ : ∃ z, z = es.filterMap (tkE n) := ⟨_, rfl⟩
      have HT1 := Lib.hid (fun W (h : Mem w W (fgL g gm es)) => (Tick_any g gm es n W (fg_hand [] h) HI.out hn1 (by omega)).mono (fun e w' h2 => (⟨h2.1, by rw [het]; exact fg_back [] h h2.2⟩ : e = .returned (.int .i64 0) ∧ Mem w w' (fgL g gm et))))
      rw [← het] at HE HIT hln
      have HT2 := Lib.hid (fun W (h : Mem w W (fgL g gm et)) => (Tick_any g gm et (30 - n) W (fg_hand [] h) HIT.out (by omega) (by omega)).mono (fun e w' h2 => (⟨h2.1, by rw [← HE.out]; exact fg_back [] h h2.2⟩ : e = .returned (.int .i64 0) ∧ Mem w w' (fgL g gm []))))
      obtain ⟨L, hLn⟩ : ∃ L, L = es.length := ⟨_, rfl⟩
      have HO := Lib.hid (fun W (h : Mem w W (fgL g gm es)) => (Open_any g gm es W (fg_hand [] h) HI.out.len).mono (fun e w' h2 => (⟨by rw [h2.1, hLn], fg_back [] h h2.2⟩ : e = .returned (.int .i64 (L : Int)) ∧ Mem w w' (fgL g gm es))))
      have HO1 := Lib.hid (fun W (h : Mem w W (fgL g gm et)) => (Open_any g gm et W (fg_hand [] h) HIT.out.len).mono (fun e w' h2 => (⟨by rw [h2.1, hLn, hln], fg_back [] h h2.2⟩ : e = .returned (.int .i64 (L : Int)) ∧ Mem w w' (fgL g gm et))))
      have HO2 := Lib.hid (fun W (h : Mem w W (fgL g gm [])) => (Open_any g gm [] W (fg_hand [] h) (by decide)).mono (fun e w' h2 => (⟨h2.1, fg_back [] h h2.2⟩ : e = .returned (.int .i64 0) ∧ Mem w w' (fgL g gm []))))
      have HR := Lib.hid (fun W => (Rest_any a1 30 W ha1 ha1' (by decide) (by decide)).mono (fun e w' h => (by rw [hn]; exact h : e = .returned (.int .i64 n) ∧ W = w')))
      rw [← hLn] at hl8
      clear hT het hln hLn hn
      have HX := Lib.hid hn1
      go_wp2_with (first
        | go_skip
        | (go_at_call 16; refine (HR.out _).mono ?_; rintro e W ⟨rfl, rfl⟩; dsimp only)
        | (go_at_call 37; (first | (with_reducible refine (HO.out _ hM).mono ?_) | (with_reducible refine (HO1.out _ hM).mono ?_) | (with_reducible refine (HO2.out _ hM).mono ?_)); clear hM; rintro e W ⟨rfl, hM⟩; dsimp only)
        | (go_at_call 35; (first | (with_reducible refine (HT1.out _ hM).mono ?_) | (with_reducible refine (HT2.out _ hM).mono ?_)); clear hM; rintro e W ⟨rfl, hM⟩; dsimp only))
      go_ret
      exact ⟨rfl, hM.b⟩
end Go.Proofs.Ytmcdmgnpbhkdhaa
