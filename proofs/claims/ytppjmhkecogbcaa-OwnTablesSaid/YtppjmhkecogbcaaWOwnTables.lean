/- The walk of OwnTables: it returns true. -/
import Derived.Test.YtppjmhkecogbcaaRtK
import Derived.Test.YtppjmhkecogbcaaBndK
import Derived.Test.YtppjmhkecogbcaaBndQ
import Derived.Test.YtppjmhkecogbcaaBndH
import Derived.Test.YtppjmhkecogbcaaRowS
import Derived.Test.YtppjmhkecogbcaaKit
import Derived.Test.YtppjmhkecogbcaaDat
import Derived.Deep.CutBlock
namespace Go.Proofs.Ytppjmhkecogbcaa
open Go.RowKit Go.Lib
set_option linter.unusedVariables false
set_option linter.unusedSimpArgs false

def idF (r : List Value) : List Value := r
def zDg : List Value := (List.replicate 16 [Value.int .u32 0, .int .i64 0, .int .u32 0, .int .i64 0, .string ⟨#[]⟩]).flatten ++ [.int .i64 0, .int .i64 0, .int .i64 0]
set_option maxRecDepth 100000 in
theorem dgNew_b (w : World) : Calls Try.prog 6 #[] w fun e w' => ∃ g, e = .returned (.pointer (some ⟨g, 0, none⟩)) ∧ Below w.heap.size w w' := by
  have hz : ∀ W : World, (zeroValue 63).run Try.prog W = .ok (.agg zDg.toArray) W := fun _ => by kernel_rfl
  generalize zDg.toArray = q at hz
  go_enter Try.func6, Try.ntmps6
  go_wp2
  go_ret
  exact ⟨_, rfl, below_ca (Below.refl _ _) _⟩
theorem rd_raw {α : Type} (size : Nat) (f : α → List Value) (v : Value) (rs : List α) : rdR size f v rs = rdR size (fun r : List Value => r) v (rs.map f) := by
  unfold rdR
  rw [List.length_map, List.flatMap_map]
theorem one_pre0 : ∀ u ∈ [Value.int .u32 0, .int .i64 0], u.oneCell' = true := by
  intro u hu
  simp only [List.mem_cons, List.not_mem_nil, or_false] at hu
  rcases hu with rfl | rfl <;> rfl
set_option maxRecDepth 100000 in
set_option maxHeartbeats 8000000 in
theorem w_OwnTables (A0 : Option Addr) (n0 c0 : Nat) (css0 : Nat → List Value) (a1 : Int) (w : World) (hR0 : Rows_ w A0 n0 ksStep css0) (hl0 : n0 ≤ 140737488351232) (ha1 : 0 ≤ a1) (ha1' : a1 ≤ 4294967295) :
    Calls Try.prog 3 #[.slice A0 n0 c0, .int .u32 a1] w fun e w' => e = .returned (.bool true) ∧ Below w.heap.size w w' := by
  have HRT := Lib.hid (routes_any A0 n0 c0 css0 w hR0 hl0)
  have HBD := Lib.hid (fun W (hb : Below w.heap.size w W) => bound_any A0 n0 c0 css0 W (rows_kept hR0 hb) hl0)
  clear hR0
  go_enter Try.func3, Try.ntmps3
  go_upto_region 4 with (first
    | (go_at_call 4; refine HRT.out.mono ?_; rintro e W ⟨g, m, t, rfl, hM, hT, -⟩; dsimp only)
    | (go_at_call 5; refine (HBD.out _ hM.b).mono ?_; rintro e W ⟨gp, vp, lp, rfl, hM2, hB⟩; replace hM := hM.new_ hM2; clear hM2; dsimp only)
    | (go_at_call 6; refine (dgNew_b _).mono ?_; rintro e W ⟨gd, rfl, hb⟩; replace hM := hM.kept hb; clear hb; dsimp only))
  clear HRT HBD
  have HT := Lib.hid hT
  have HB := Lib.hid hB
  obtain ⟨L, hL⟩ : ∃ z, z = t.lst [] := ⟨_, rfl⟩
  have hm64 := hT.m64
  have HLN := Lib.hid (show L.length = m from by rw [hL]; exact (RT.len_lst t []).trans hT.cnt)
  have HAL := Lib.hid (fun W h => All_any g m t W h hT)
  rw [← hL] at HAL
  have hlp := hB.len
  have HPA := Lib.hid (fun W hA hR => pt_All_any gp vp lp W hA hR (by omega))
  obtain ⟨np, hnp⟩ : ∃ z, z = lp.length := ⟨_, rfl⟩
  have HNP := Lib.hid hnp
  rw [← hnp] at hlp
  clear hT hB hL hnp
  replace hM : Mem w W ([pA gp vp, pW vp lp] ++ t.res) := hM
  go_upto_region 7 with (first
    | go_skip
    | (go_at_call 7; ((first | (refine (HAL.out _ (front_hand [_, _] hM)).mono ?_; rintro e W ⟨Ox, cx, rfl, hM6⟩; replace hM := front_back [_, _] hM hM6; replace hM := last_first hM) | (refine (HAL.out _ (front_hand [_, _, _] hM)).mono ?_; rintro e W ⟨Oy, cy, rfl, hM6⟩; replace hM := front_back [_, _, _] hM hM6; replace hM := last_first hM)); clear hM6; dsimp only)))
  replace hM : Mem w W ([rowR 2 cPa (.slice Oy m cy) L, rowR 2 cPa (.slice Ox m cx) L, pA gp vp, pW vp lp] ++ t.res) := hM
  rw [row_raw 2 cPa (.slice Ox m cx)] at hM
  have HX := Lib.hid (show (L.map cPa).length = m ∧ ∀ r ∈ L.map cPa, r.length = 2 from ⟨by rw [List.length_map]; exact HLN.out, fun r hr => by obtain ⟨q, _, rfl⟩ := List.mem_map.1 hr; rfl⟩)
  generalize L.map cPa = rx at hM HX
  go_wp2_with fail
  go_loopg [35] m (fun gh i wr => ∃ (k : Nat) (rx : List (List Value)), gh = m - k ∧ k ≤ m ∧ i = .int .i64 k ∧ Mem w wr ([rowR 2 cPa (.slice Oy m cy) L, rowR 2 (fun r : List Value => r) (.slice Ox m cx) rx, pA gp vp, pW vp lp] ++ t.res) ∧ Hid (rx.length = m ∧ ∀ r ∈ rx, r.length = 2))
  case atStart => exact ⟨0, rx, by omega, by omega, rfl, hM, HX⟩
  case round =>
    clear hM HX rx
    obtain ⟨k, rx, hgk, hk, rfl, hM, HX⟩ := hrel
    have HGK := Lib.hid hgk
    clear hgk
    by_cases hlt : k < m
    · obtain ⟨gO, offO, cO, hv, -⟩ := (hM.row (f := fun r : List Value => r) (rs := rx) 1 rfl).pos (by rw [HX.out.1]; omega)
      injection hv with hv1 hv3 hv2
      clear hv3
      subst hv1 hv2
      go_wp2_with (first
        | go_skip
        | ((with_reducible refine at_store_ (T := 33) ?_); refine wpList_store_row (f := fun r : List Value => r) (size := 2) rfl 33 _ _ rfl 1 gO offO m cx k rx [.int .u32 77, .int .i64 99] hM rfl HX.out.2 (by rw [HX.out.1]; exact hlt) rfl rfl rfl sz_Prefix rfl ?_; clear hM; intro W hM; simp only [List.cons_append, List.set_cons_succ, List.set_cons_zero] at hM))
      have HX2 := Lib.hid (show (rx.set k [.int .u32 77, .int .i64 99]).length = m ∧ ∀ r ∈ rx.set k [.int .u32 77, .int .i64 99], r.length = 2 from ⟨by rw [List.length_set]; exact HX.out.1, fun r hr => (List.mem_or_eq_of_mem_set hr).elim (HX.out.2 r) (fun e => by rw [e]; rfl)⟩)
      go_roundg (m - (k + 1))
      case measure => have := HGK.out; omega
      case rel => exact ⟨k + 1, _, rfl, by omega, by go_num, hM, HX2⟩
    · clear HGK
      have HXL := Lib.hid HX.out.1
      go_upto_region 13 with (first
        | go_skip
        | ((with_reducible refine at_bslice_ ?_); refine wpList_bslice_mem rfl _ 33 _ rfl Try.underlying30 _ zv_Prefix _ rfl rfl sz_Prefix (Nat.le_of_ble_eq_true rfl) (Nat.le_of_ble_eq_true rfl) hM ?_; clear hM; intro gs W hM; replace hM := last_front hM)
        | ((with_reducible refine at_append_ ?_); refine wpList_append_row (f := fun r : List Value => r) (size := 2) rfl _ _ _ 33 rfl Try.underlying30 16 elem_Pre (by decide) 2 0 gs _ rx [.int .u32 0, .int .i64 0] hM rfl rfl rfl 1 rfl rfl one_pre0 (by rw [HXL.out]; omega) (by rw [HXL.out]; simp only [maxLen]; omega) ?_; clear hM; intro vN W hM))
      replace hM : Mem w W ([atR gs 33 [.int .u32 0, .int .i64 0], rowR 2 cPa (.slice Oy m cy) L, rowR 2 (fun r : List Value => r) vN (rx ++ [[.int .u32 0, .int .i64 0]]), pA gp vp, pW vp lp] ++ t.res) := hM
      generalize rowR 2 (fun r : List Value => r) vN (rx ++ [[.int .u32 0, .int .i64 0]]) = RX at hM
      generalize atR gs 33 [.int .u32 0, .int .i64 0] = RG at hM
      clear HX HXL
      go_upto_region 14 with (first
        | go_skip
        | (go_at_call 8; ((first | (refine (HPA.out _ (hM.at_ 3 rfl) (hM.toRd 4 rfl)).mono ?_; rintro e W ⟨vb, rfl, hM6⟩; replace hM := last_front (hM.join hM6); obtain ⟨Ab, cb, rfl⟩ := rdR_form (hM.get 0 rfl); rw [← HNP.out] at hM ⊢) | (refine (HPA.out _ (hM.at_ 4 rfl) (hM.toRd 5 rfl)).mono ?_; rintro e W ⟨vc, rfl, hM6⟩; replace hM := last_front (hM.join hM6); obtain ⟨Ac, cc, rfl⟩ := rdR_form (hM.get 0 rfl); rw [← HNP.out] at hM ⊢)); clear hM6; dsimp only)))
      replace hM : Mem w W ([rdR 7 cBound (.slice Ac np cc) lp, rdR 7 cBound (.slice Ab np cb) lp, RG, rowR 2 cPa (.slice Oy m cy) L, RX, pA gp vp, pW vp lp] ++ t.res) := hM
      rw [rd_raw 7 cBound (.slice Ab np cb)] at hM
      have HX := Lib.hid (show (lp.map cBound).length = np ∧ ∀ r ∈ lp.map cBound, r.length = 7 from ⟨by rw [List.length_map]; exact HNP.out.symm, fun r hr => by obtain ⟨q, _, rfl⟩ := List.mem_map.1 hr; rfl⟩)
      generalize lp.map cBound = rb at hM HX
      have HEB := Lib.hid (fun E v1 W h => Eq_any E v1 (.slice Ac np cc) lp W h (by rw [← HNP.out]; omega))
      have HEP := Lib.hid (fun E v1 W h => Eq_pre E v1 (.slice Oy m cy) L W h (by rw [HLN.out]; omega))
      have HDR := Lib.hid (fun gu W h => Drop_none gu 0 (newT gu) 0 0 W h (newT_tab gu) (by omega) ⟨by omega, by decide, by decide⟩ (newT_get gu _))
      have HDP := Lib.hid (fun gu W h => pt_Drop_none gu (.slice none 0 0) [] 1 W h (by decide) rfl)
      go_wp2_with fail
      go_loopg [53] np (fun gh i wr => ∃ (k : Nat) (rb : List (List Value)), gh = np - k ∧ k ≤ np ∧ i = .int .i64 k ∧ Mem w wr ([rdR 7 cBound (.slice Ac np cc) lp, rdR 7 (fun r : List Value => r) (.slice Ab np cb) rb, RG, rowR 2 cPa (.slice Oy m cy) L, RX, pA gp vp, pW vp lp] ++ t.res) ∧ Hid (rb.length = np ∧ ∀ r ∈ rb, r.length = 7))
      case atStart => exact ⟨0, rb, by omega, by omega, rfl, hM, HX⟩
      case round =>
        clear hM HX rb
        obtain ⟨k, rb, hgk, hk, rfl, hM, HX⟩ := hrel
        have HGK := Lib.hid hgk
        clear hgk
        by_cases hlt : k < np
        · have hne : rb.length ≠ 0 := by rw [HX.out.1]; omega
          rw [rd_row 7 (fun r : List Value => r) (.slice Ab np cb) rb hne] at hM
          clear hne
          obtain ⟨gO, offO, cO, hv, -⟩ := (hM.row (f := fun r : List Value => r) (rs := rb) 1 rfl).pos (by rw [HX.out.1]; omega)
          injection hv with hv1 hv3 hv2
          clear hv3
          subst hv1 hv2
          go_wp2_with (first
            | go_skip
            | ((with_reducible refine at_store_ (T := 39) ?_); refine wpList_store_row (f := fun r : List Value => r) (size := 7) rfl 39 _ _ rfl 1 gO offO np cb k rb [.int .i64 0, .int .u32 0, .int .i64 0, .int .u32 0, .int .i64 0, .bool false, .int .i64 99] hM rfl HX.out.2 (by rw [HX.out.1]; exact hlt) rfl rfl rfl sz_Bound rfl ?_; clear hM; intro W hM; simp only [List.cons_append, List.set_cons_succ, List.set_cons_zero] at hM))
          have hX2 : (rb.set k [.int .i64 0, .int .u32 0, .int .i64 0, .int .u32 0, .int .i64 0, .bool false, .int .i64 99]).length = np ∧ ∀ r ∈ rb.set k [.int .i64 0, .int .u32 0, .int .i64 0, .int .u32 0, .int .i64 0, .bool false, .int .i64 99], r.length = 7 := ⟨by rw [List.length_set]; exact HX.out.1, fun r hr => (List.mem_or_eq_of_mem_set hr).elim (HX.out.2 r) (fun e => by rw [e]; rfl)⟩
          rw [← rd_row 7 (fun r : List Value => r) (.slice (some ⟨gO, offO, none⟩) np cb) _ (by rw [hX2.1]; omega)] at hM
          have HX2 := Lib.hid hX2
          clear hX2
          go_roundg (np - (k + 1))
          case measure => have := HGK.out; omega
          case rel => exact ⟨k + 1, _, rfl, by omega, by go_num, hM, HX2⟩
        · clear HGK HX
          generalize rdR 7 (fun r : List Value => r) (.slice Ab np cb) rb = RB at hM
          go_wp2_with (first
            | go_skip
            | (go_at_call 7; ((refine (HAL.out _ (front_hand [_, _, _, _, _, _, _] hM)).mono ?_); rintro e W ⟨Oz, cz, rfl, hM6⟩; replace hM := front_back [_, _, _, _, _, _, _] hM hM6; replace hM := last_first hM; replace hM := to_front [_, _, _, _] [_] _ hM; replace hM := hM.perm (List.Perm.swap _ _ _); clear hM6; dsimp only))
            | (go_at_call 9; (refine (HEP.out _ _ _ (show MemX noE w _ ([_, _] ++ _) from hM).hand).mono ?_); rintro e W ⟨rfl, hM6⟩; replace hM := (show MemX noE w _ ([_, _] ++ _) from hM).back hM6; clear hM6; dsimp only)
            | (go_at_call 8; (refine (HPA.out _ (hM.at_ 6 rfl) (hM.toRd 7 rfl)).mono ?_); rintro e W ⟨vd, rfl, hM6⟩; replace hM := last_front (hM.join hM6); clear hM6; replace hM := to_front [_, _, _] [_] _ hM; replace hM := hM.perm (List.Perm.swap _ _ _); dsimp only)
            | (go_at_call 10; (refine (HEB.out _ _ _ (show MemX noE w _ ([_, _] ++ _) from hM).hand).mono ?_); rintro e W ⟨rfl, hM6⟩; replace hM := (show MemX noE w _ ([_, _] ++ _) from hM).back hM6; clear hM6; dsimp only)
            | (go_at_call 11; (refine (newroute_any _).mono ?_); rintro e W ⟨gu, rfl, hM6⟩; replace hM := hM.new_ hM6; clear hM6; dsimp only)
            | (go_at_call 12; (refine (HDR.out _ _ hM.hand).mono ?_); rintro e W ⟨rfl, hM6⟩; replace hM := hM.back hM6; clear hM6; dsimp only)
            | (go_at_call 13; (refine (newports_any _).mono ?_); rintro e W ⟨gu2, rfl, hM6⟩; replace hM := hM.new_ hM6; clear hM6; dsimp only)
            | (go_at_call 14; (refine (HDP.out _ _ hM.hand).mono ?_); rintro e W ⟨rfl, hM6⟩; replace hM := hM.back hM6; clear hM6; dsimp only))
          go_ret
          exact ⟨rfl, hM.b⟩
end Go.Proofs.Ytppjmhkecogbcaa
