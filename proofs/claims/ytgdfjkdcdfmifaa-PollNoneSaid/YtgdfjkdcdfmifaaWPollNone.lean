/- The walk of PollNone: it returns true. Written by my genpn.py. -/
import Derived.Test.YtgdfjkdcdfmifaaPolE
import Derived.Test.YtgdfjkdcdfmifaaRest
import Derived.Test.YtgdfjkdcdfmifaaKit
import Derived.Test.YtgdfjkdcdfmifaaDat
namespace Go.Proofs.Ytgdfjkdcdfmifaa
open Go.RowKit Go.Lib
set_option linter.unusedVariables false
set_option linter.unusedSimpArgs false

set_option maxRecDepth 100000 in
set_option maxHeartbeats 16000000 in
theorem w_PollNone (A0 : Option Addr) (n0 c0 : Nat) (css0 : Nat → List Value) (b1 : Bool) (w : World) (hR0 : Rows_ w A0 n0 [.int .i64] css0) (hl0 : n0 ≤ 140737488351232) :
    Calls Try.prog 13 #[.slice A0 n0 c0, .bool b1] w fun e w' => e = .returned (.bool true) ∧ Below w.heap.size w w' := by
  have hM := Mem.nil w
  go_enter Try.func13, Try.ntmps13
  go_wp2_with fail
  refine (newpoll_any _).mono ?_
  rintro e W1 ⟨g, rfl, hM⟩
  replace hM := pl_start hM
  dsimp only
  have HS := Lib.hid (fun W h => Set_any g (.slice none 0 0) [] (-1) 0 false W h pinv_nil)
  have HS0 := Lib.hid (fun (W : World) h => (HS.out W h).mono (fun e w' (h2 : ∃ n v' ws', e = .returned (.int .i64 n) ∧ PlPre W w' g (.slice none 0 0) [] v' ws' ∧ SetRel [] (-1) 0 false n ws') => (show e = .returned (.int .i64 1) ∧ ∃ v', PlPre W w' g (.slice none 0 0) [] v' [] from by
    obtain ⟨n, v', ws', rfl, h3, h4⟩ := h2
    rcases h4 with ⟨rfl, _, rfl⟩ | ⟨_, hf, _⟩
    · exact ⟨rfl, v', h3⟩
    · omega)))
  clear HS
  go_upto_region 4 with (first | (go_at_call 41; refine (HS0.out _ (pl_hand hM)).mono ?_; rintro x W ⟨rfl, v1, hM6⟩; replace hM := pl_put hM hM6; clear hM6; dsimp only))
  clear HS0
  go_wp2_with fail
  go_loopg [24] n0 (fun gh i wr => ∃ (k : Nat) (ws : List KW) (v : Value), gh = n0 - k ∧ k ≤ n0 ∧ i = .int .i64 k ∧ Mem w wr (pollL g v ws ++ []) ∧ Hid (PInv ws) ∧ Hid (∀ x ∈ ws, x.ready = 0 ∧ ∃ j, j < k ∧ x.fd = fdOf (css0 j)))
  case atStart => exact ⟨0, [], _, by omega, by omega, rfl, hM, Lib.hid pinv_nil, Lib.hid (by simp)⟩
  case round =>
    clear hM
    obtain ⟨k, ws, v, hgk, hk, rfl, hM, HI, HP⟩ := hrel
    have HGK := Lib.hid hgk
    clear hgk
    by_cases hlt : k < n0
    · obtain ⟨b, off, hA, hrg⟩ := hR0.at_ k hlt
      subst hA
      have hokx := hR0.ok k hlt
      obtain ⟨n, hcs, hn1, hn2⟩ := one_int hokx
      have hcell : wr.cell? ⟨b, off + k, none⟩ = some (.int .i64 n) := by
        have := range_kept hrg hM.b 0 (.int .i64 n) (by rw [hcs]; rfl)
        simpa using this
      have HRS := Lib.hid (fun W => Rest_any n 16 W (by omega) (by omega) (by omega) (by omega))
      have hfd : fdOf (css0 k) = n % 16 := by rw [hcs]; rfl
      have hfr : 0 ≤ n % 16 ∧ n % 16 < 16 := by omega
      rw [← hfd] at HRS hfr
      have HFR := Lib.hid hfr
      clear hcs hrg hokx hfd hfr
      generalize hfk : fdOf (css0 k) = fk at HRS HFR
      have HFK := Lib.hid hfk
      clear hfk
      go_upto_region 8 with (first | (go_at_call 16; refine (calls_b (HRS.out _)).mono ?_; rintro e W ⟨rfl, hb⟩; replace hM := hM.kept hb; clear hb hcell))
      have HS := Lib.hid (fun W h => Set_any g v ws fk 7 b1 W h HI.out)
      go_upto_region 9 with (first | (go_at_call 41; refine (HS.out _ (pl_hand hM)).mono ?_; rintro x W ⟨m1, v1, ws1, rfl, hM6, hs1⟩; replace hM := pl_put hM hM6; clear hM6; dsimp only))
      have HI1 := Lib.hid (hs1.inv HI.out)
      have HN1 := Lib.hid (fun W h => Note_any g v1 ws1 fk 7 W h HI1.out)
      have HS1 := Lib.hid hs1
      clear hs1 HS
      go_upto_region 10 with (first | (go_at_call 42; refine (HN1.out _ (pl_hand hM)).mono ?_; rintro x W ⟨ws2, rfl, hM6, hs2⟩; replace hM := pl_put hM hM6; clear hM6; dsimp only))
      have HI2 := Lib.hid (hs2.inv HI1.out)
      have HN2 := Lib.hid (fun W h => Note_any g v1 ws2 fk 0 W h HI2.out)
      have HS2 := Lib.hid hs2
      clear hs2 HN1
      go_wp2_with (first | (go_at_call 42; refine (HN2.out _ (pl_hand hM)).mono ?_; rintro x W ⟨ws3, rfl, hM6, hs3⟩; replace hM := pl_put hM hM6; clear hM6; dsimp only))
      have HI3 := Lib.hid (hs3.inv HI2.out)
      have HS3 := Lib.hid hs3
      clear hs3 HN2
      go_roundg (n0 - (k + 1))
      case measure => have := HGK.out; omega
      case rel =>
        refine ⟨k + 1, ws3, v1, rfl, by omega, by go_num, hM, HI3, Lib.hid (fun x hx => ?_)⟩
        rcases HS3.out.mem HI2.out hx with ⟨h1, h2⟩ | ⟨h1, h2⟩
        · exact ⟨by rw [h2, bAnd_0_7], k, by omega, by rw [h1, HFK.out]⟩
        · rcases HS2.out.mem HI1.out h2 with ⟨h3, _⟩ | ⟨_, h3⟩
          · exact absurd h3 h1
          · rcases HS1.out.mem h3 with h4 | h4
            · exact absurd h4 h1
            · obtain ⟨h5, j, h6, h7⟩ := HP.out x h4
              exact ⟨h5, j, by omega, h7⟩
    · obtain rfl : n0 = k := by omega
      have hon := out_none (fun x hx => (HP.out x hx).1) 16
      have hW := fun W h => Wait_len g v ws 16 W h HI.out (by omega) (by omega)
      simp only [hon.1, hon.2, List.length_nil] at hW
      have HW := Lib.hid hW
      clear hon hW
      have HP2 := Lib.hid (fun x hx => (HP.out x hx).2)
      go_upto_region 15 with (first | go_skip | (go_at_call 43; refine (HW.out _ (pl_hand hM)).mono ?_; rintro x W ⟨v2, O, oc, rfl, hM6⟩; replace hM := pl_start (pl_end (wt_mid (hM.back hM6))); clear hM6; dsimp only))
      clear HW HP HGK
      go_wp2_with fail
      go_loopg [55] n0 (fun gh i wr => ∃ (k : Nat) (ws : List KW) (v : Value), gh = n0 - k ∧ k ≤ n0 ∧ i = .int .i64 k ∧ Mem w wr (pollL g v ws ++ []) ∧ Hid (PInv ws) ∧ Hid (∀ x ∈ ws, ∃ j, k ≤ j ∧ j < n0 ∧ x.fd = fdOf (css0 j)))
      case atStart => exact ⟨0, ws, v2, by omega, by omega, rfl, hM, HI, Lib.hid (fun x hx => by
        obtain ⟨j, h1, h2⟩ := HP2.out x hx
        exact ⟨j, by omega, h1, h2⟩)⟩
      case round =>
        clear hM HI HP2
        obtain ⟨k, ws, v, hgk, hk, rfl, hM, HI, HP⟩ := hrel
        have HGK := Lib.hid hgk
        clear hgk
        by_cases hlt : k < n0
        · obtain ⟨b, off, hA, hrg⟩ := hR0.at_ k hlt
          subst hA
          have hokx := hR0.ok k hlt
          obtain ⟨n, hcs, hn1, hn2⟩ := one_int hokx
          have hcell : wr.cell? ⟨b, off + k, none⟩ = some (.int .i64 n) := by
            have := range_kept hrg hM.b 0 (.int .i64 n) (by rw [hcs]; rfl)
            simpa using this
          have HRS := Lib.hid (fun W => Rest_any n 16 W (by omega) (by omega) (by omega) (by omega))
          have hfd : fdOf (css0 k) = n % 16 := by rw [hcs]; rfl
          rw [← hfd] at HRS
          clear hcs hrg hokx hfd
          generalize hfk : fdOf (css0 k) = fk at HRS
          have HFK := Lib.hid hfk
          clear hfk
          go_upto_region 19 with (first | (go_at_call 16; refine (calls_b (HRS.out _)).mono ?_; rintro e W ⟨rfl, hb⟩; replace hM := hM.kept hb; clear hb hcell))
          have HN1 := Lib.hid (fun W h => Note_any g v ws fk 7 W h HI.out)
          go_upto_region 20 with (first | (go_at_call 42; refine (HN1.out _ (pl_hand hM)).mono ?_; rintro x W ⟨ws1, rfl, hM6, hs1⟩; replace hM := pl_put hM hM6; clear hM6; dsimp only))
          have HI1 := Lib.hid (hs1.inv HI.out)
          have HD1 := Lib.hid (fun W h => Drop_any g v ws1 fk W h HI1.out)
          have HS1 := Lib.hid hs1
          clear hs1 HN1
          go_wp2_with (first | (go_at_call 44; refine (HD1.out _ (pl_hand hM)).mono ?_; rintro x W ⟨m1, v1, ws2, rfl, hM6, hs2⟩; replace hM := pl_put hM hM6; clear hM6; dsimp only))
          have HI2 := Lib.hid (hs2.inv HI1.out)
          have HS2 := Lib.hid hs2
          clear hs2 HD1
          go_roundg (n0 - (k + 1))
          case measure => have := HGK.out; omega
          case rel =>
            refine ⟨k + 1, ws2, v1, rfl, by omega, by go_num, hM, HI2, Lib.hid (fun x hx => ?_)⟩
            obtain ⟨h1, h2⟩ := HS2.out.mem HI1.out hx
            rcases HS1.out.mem HI.out h2 with ⟨h3, _⟩ | ⟨_, h3⟩
            · exact absurd h3 h1
            · obtain ⟨j, h5, h6, h7⟩ := HP.out x h3
              refine ⟨j, ?_, h6, h7⟩
              have : j ≠ k := fun e => h1 (by rw [h7, e, HFK.out])
              omega
        · have hws : ws = [] := by
            cases ws with
            | nil => rfl
            | cons x ws =>
              obtain ⟨j, h5, h6, _⟩ := HP.out x (by simp)
              omega
          subst hws
          have hW := fun W h => Wait_len g v [] 16 W h pinv_nil (by omega) (by omega)
          have e1 : wOut 16 [] = [] := rfl
          simp only [e1, List.length_nil] at hW
          have HW := Lib.hid hW
          clear e1 HP HI hW
          go_wp2_with (first | go_skip | (go_at_call 43; refine (HW.out _ (pl_hand hM)).mono ?_; rintro x W ⟨v2, O, oc, rfl, hM6⟩; replace hM := hM.back hM6; clear hM6; dsimp only))
          go_ret
          exact ⟨rfl, hM.b⟩
end Go.Proofs.Ytgdfjkdcdfmifaa
