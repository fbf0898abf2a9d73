/- The contract of outq's Ack. -/
import Derived.Test.YtfpifahkpkjfgaaOutqW
namespace Go.Proofs.Ytfpifahkpkjfgaa
open Go.RowKit Go.Lib
set_option linter.unusedVariables false

theorem grown_none {w w' : World} (h : w.grownBy w' none) (row : Option Nat) : w.grownBy w' row := ⟨h.os, h.tape, h.output, h.size, fun k hk _ => h.block k hk (by simp)⟩
theorem elem_b1 : ∃ i z, Try.prog.info? 5 = some i ∧ i.zero = some z ∧ i.size = 1 ∧ i.bytes = 1 ∧ z.cells.size = 1 := elem_u8
set_option maxRecDepth 100000 in
set_option maxHeartbeats 1000000 in
theorem ack_no (g : Nat) (q : OQ) (v : Value) (a : Int) (w : World) (hM : OPre w w g v q v) (h : oHit q a = false) :
    Calls Try.prog 87 #[.pointer (some ⟨g, 0, none⟩), .int .i64 a] w fun e w' => e = .returned (.int .i64 0) ∧ OPre w w' g v q v := by
  have hA := hM.at_ 0 rfl
  have c0 := hA.cell
  have l0 := hA.lt
  simp only [oqC] at c0
  unfold oHit at h
  by_cases h1 : a ≤ q.una
  · have t1 : decide (a ≤ q.una) = true := by simpa using h1
    clear h
    go_enter Try.func87, Try.ntmps87
    go_wp2_with fail
    go_ret
    exact ⟨rfl, hM⟩
  · have t1 : decide (a ≤ q.una) = false := by simpa using h1
    have h2 : q.sent < a := by
      by_cases h2 : q.sent < a
      · exact h2
      · rw [decide_eq_true (show q.una < a by omega), decide_eq_true (show a ≤ q.sent by omega)] at h; cases h
    have t2 : decide (q.sent < a) = true := by simpa using h2
    clear h
    go_enter Try.func87, Try.ntmps87
    go_wp2_with fail
    go_ret
    exact ⟨rfl, hM⟩
set_option maxRecDepth 100000 in
set_option maxHeartbeats 4000000 in
theorem ack_yes (g : Nat) (q : OQ) (v : Value) (a : Int) (w : World) (hM : OPre w w g v q v) (ok : OqOk q) (hb2 : q.base ≤ 4611686018427387904) (h : oHit q a = true) :
    Calls Try.prog 87 #[.pointer (some ⟨g, 0, none⟩), .int .i64 a] w fun e w' => ∃ v', e = .returned (.int .i64 (a - q.una)) ∧ OPre w w' g v (oAck q a) v' := by
  have hn := ack_n ok a h
  have HQ : oAck q a = ⟨if 0 < oAckN q a then q.l.drop (oAckN q a).toNat else q.l, if 0 < oAckN q a then q.base + oAckN q a else q.base, a, if q.cur < a then a else q.cur, q.sent, q.cl⟩ := by unfold oAck; rw [if_pos h]
  have hh := h
  unfold oHit at hh
  simp only [Bool.and_eq_true, decide_eq_true_eq] at hh
  obtain ⟨h1, h2⟩ := hh
  have hlen := ok.len
  have hba := ok.ba
  have huc := ok.uc
  have hse : q.sent ≤ 4611686018427390000 := by have := ok.ee; have := qEnd_bd (q := q); unfold oFin at this; omega
  have hfd : oFin q = q.base + q.l.length := rfl
  have hnd : oAckN q a = (if a < oFin q then a else oFin q) - q.base := rfl
  have HF := Lib.hid (fun W (hA : OAt W g { q with una := a, cur := if q.cur < a then a else q.cur } v) (hV : OwnB W 0 v q.l) => fin_any g { q with una := a, cur := if q.cur < a then a else q.cur } v W hA hV hlen hba hb2)
  have hfe : oFin { q with una := a, cur := if q.cur < a then a else q.cur } = oFin q := rfl
  rw [hfe] at HF
  have hmn : (if oFin q < a then oFin q else a) = (if a < oFin q then a else oFin q) := by split <;> split <;> omega
  have hmx : (if q.cur < a then a else q.cur) = (if q.cur < a then a else q.cur) := rfl
  generalize hN : oAckN q a = n at *
  generalize oFin q = F at *
  generalize hMI : (if a < F then a else F) = mi at *
  generalize hCU : (if q.cur < a then a else q.cur) = cu at *
  have t1 : decide (a ≤ q.una) = false := by simp; omega
  have t2 : decide (q.sent < a) = false := by simp; omega
  have c0 := (hM.at_ 0 rfl).cell
  have l0 := (hM.at_ 0 rfl).lt
  simp only [oqC] at c0
  have HHQ := Lib.hid HQ
  have HNM := Lib.hid hnd
  have hn1 := hn.1
  have hn2 := hn.2
  have hmi : mi - q.base = n := by omega
  clear HQ ok h hfe hmx hn hnd hfd
  go_enter Try.func87, Try.ntmps87
  go_upto_region 4 with fail
  clear c0 l0
  go_upto_region 6 with         (first
          | go_skip
          | ((with_reducible refine at_box_ ?_); refine wpList_box_mem rfl _ _ rfl _ rfl hM ?_; clear hM; intro gb W hM; first | (simp only [List.nil_append] at hM) | (simp only [List.cons_append, List.nil_append] at hM))
          | ((with_reducible refine at_load_ ?_); refine at_wanted_ (by rfl) ?_; refine wpList_loadf_mem (by go_simp) _ _ rfl (by kernel_rfl) 0 _ _ _ _ _ hM rfl rfl (by first | rfl | assumption) ?_)
          | ((with_reducible refine at_store_ ?_); refine wpList_store1_mem rfl _ _ _ rfl 0 _ _ _ _ _ hM rfl rfl (by first | ((conv => lhs; whnf); done) | ((conv => lhs; whnf); rfl)) (by rfl) (by rfl) (by kernel_rfl) rfl ?_; clear hM; intro W hM; simp only [oqA, oqB, oqC, List.set_cons_succ, List.set_cons_zero] at hM))
  have hX : OAt W g { q with una := a, cur := cu } v := hM.at_ 0 rfl
  have hY : OwnB W 0 v q.l := hM.own 1 rfl
  have HFU := Lib.hid (fun (u : Later W) => HF.out u.now (hX.kept u.still) (hY.kept u.still))
  have c0 := hX.cell
  have l0 := hX.lt
  simp only [oqC] at c0
  clear hX hY
  simp only [Act.put]
  refine wp_region_later (by kernel_rfl) (by kernel_rfl) (fun hlc => ?_)
  repeat (go_big_quiet_step ((go_at_call 83; exact later_call (HFU.out _))))
  refine wpQuiet_nil ?_
  intro wq hbq
  clear hlc c0 l0 HFU HF
  replace hM := hM.kept hbq
  clear hbq
  by_cases h0 : 0 < n
  rotate_left
  · have t3 : decide (0 < n) = false := by simpa using h0
    go_wp2_with (first
      | go_skip
      | ((with_reducible refine at_box_ ?_); refine wpList_box_mem rfl _ _ rfl _ rfl hM ?_; clear hM; intro gb W hM; first | (simp only [List.nil_append] at hM) | (simp only [List.cons_append, List.nil_append] at hM))
      | ((with_reducible refine at_load_ ?_); refine at_wanted_ (by rfl) ?_; refine wpList_loadf_mem (by go_simp) _ _ rfl (by kernel_rfl) 0 _ _ _ _ _ hM rfl rfl (by first | rfl | assumption) ?_)
      | ((with_reducible refine at_store_ ?_); refine wpList_store1_mem rfl _ _ _ rfl 0 _ _ _ _ _ hM rfl rfl (by first | ((conv => lhs; whnf); done) | ((conv => lhs; whnf); rfl)) (by rfl) (by rfl) (by kernel_rfl) rfl ?_; clear hM; intro W hM; simp only [List.set_cons_succ, List.set_cons_zero] at hM))
    go_ret
    refine ⟨rfl, v, ?_⟩
    rw [HHQ.out, if_neg (by omega), if_neg (by omega)]
    exact hM
  have t3 : decide (0 < n) = true := by simpa using h0
  obtain ⟨k, hk⟩ : ∃ k : Nat, n = (k : Int) := ⟨n.toNat, by omega⟩
  subst hk
  obtain ⟨g2, off, cap, rfl, hW⟩ := (hM.own 1 rfl).pos (by omega)
  have hcap := hW.le
  have e1 : 0 < k := by omega
  have e2 : k ≤ q.l.length := by omega
  have e3 : (k : Int) ≤ (q.l.length : Int) := by omega
  have e4 : (0 : Int) ≤ (k : Int) := by omega
  have HT : ((k : Int)).toNat = k := by omega
  have HWW := Lib.hid hW
  have HHT := Lib.hid HT
  clear hW HT
  by_cases hkl : k < q.l.length
  · have v9 : (cap = k) = False := eq_false (by omega)
    go_upto_region 9 with         (first
          | go_skip
          | (at_builtin; obtain ⟨iG, zG, iG0, iG1, iG2, iG3, iG4⟩ := elem_b1; refine wpList_append_win rfl _ _ 104 rfl 0 5 iG zG 1 1 Try.underlying104 iG0 iG1 iG2 iG3 iG4 (by decide) (.slice none 0 0) 0 [] rfl (Win.nil _ _ _) ⟨g2, off + k, none⟩ (q.l.length - k) (cap - k) ((q.l.drop k).map b8) rfl ?len ?news ?one ?pos ?mx ?byt (Nat.zero_le _) ?_)
          | ((with_reducible refine at_box_ ?_); refine wpList_box_mem rfl _ _ rfl _ rfl hM ?_; clear hM; intro gb W hM; first | (simp only [List.nil_append] at hM) | (simp only [List.cons_append, List.nil_append] at hM))
          | ((with_reducible refine at_load_ ?_); refine at_wanted_ (by rfl) ?_; refine wpList_loadf_mem (by go_simp) _ _ rfl (by kernel_rfl) 0 _ _ _ _ _ hM rfl rfl (by first | rfl | assumption) ?_)
          | ((with_reducible refine at_store_ ?_); refine wpList_store1_mem rfl _ _ _ rfl 0 _ _ _ _ _ hM rfl rfl (by first | ((conv => lhs; whnf); done) | ((conv => lhs; whnf); rfl)) (by rfl) (by rfl) (by kernel_rfl) rfl ?_; clear hM; intro W hM; simp only [List.set_cons_succ, List.set_cons_zero] at hM))
    case len => rw [List.length_map, List.length_drop, Nat.mul_one]
    case news =>
      intro j u hj
      rw [Addr.add_mid]
      have hW2 := HWW.out.here (k + j) u (by rw [← hj, List.getElem?_map, List.getElem?_map, List.getElem?_drop])
      rw [Nat.add_assoc]
      exact hW2
    case one => exact b8_one _
    case pos => omega
    case mx => simp only [maxLen]; omega
    case byt => omega
    intro v1 w1 hV1 hO1 hat1
    have hV2 : OwnB w1 0 v1 (q.l.drop k) := by
      unfold OwnB
      rw [List.length_drop]
      simpa using hV1
    replace hM := hM.upd 1 rfl (grown_none hO1 _) (winR_stab _ _ _ _ _) (show (ownR 0 v1 (q.l.drop k)).P w1 from hV2) (fun j hj => ⟨by
      have hj2 : v1.ownBlock = some j := hj
      rcases hat1 with e | ⟨m, e, hm⟩
      · rw [e] at hj2; cases hj2
      · rw [e] at hj2; cases hj2; exact .inr hm, (hV2.lt j hj).2⟩)
    simp only [List.set_cons_succ, List.set_cons_zero] at hM
    obtain ⟨A1, cc, rfl⟩ := hV2.form
    clear hV1 hV2 hO1 hat1
    go_upto_region 9 with         (first
          | go_skip
          | ((with_reducible refine at_box_ ?_); refine wpList_box_mem rfl _ _ rfl _ rfl hM ?_; clear hM; intro gb W hM; first | (simp only [List.nil_append] at hM) | (simp only [List.cons_append, List.nil_append] at hM))
          | ((with_reducible refine at_load_ ?_); refine at_wanted_ (by rfl) ?_; refine wpList_loadf_mem (by go_simp) _ _ rfl (by kernel_rfl) 0 _ _ _ _ _ hM rfl rfl (by first | rfl | assumption) ?_)
          | ((with_reducible refine at_store_ ?_); refine wpList_store1_mem rfl _ _ _ rfl 0 _ _ _ _ _ hM rfl rfl (by first | ((conv => lhs; whnf); done) | ((conv => lhs; whnf); rfl)) (by rfl) (by rfl) (by kernel_rfl) rfl ?_; clear hM; intro W hM; simp only [List.set] at hM))
    go_wp2_with (first
      | go_skip
      | ((with_reducible refine at_box_ ?_); refine wpList_box_mem rfl _ _ rfl _ rfl hM ?_; clear hM; intro gb W hM; first | (simp only [List.nil_append] at hM) | (simp only [List.cons_append, List.nil_append] at hM))
      | ((with_reducible refine at_load_ ?_); refine at_wanted_ (by rfl) ?_; refine wpList_loadf_mem (by go_simp) _ _ rfl (by kernel_rfl) 0 _ _ _ _ _ hM rfl rfl (by first | rfl | assumption) ?_)
      | ((with_reducible refine at_store_ ?_); refine wpList_store1_mem rfl _ _ _ rfl 0 _ _ _ _ _ hM rfl rfl (by first | ((conv => lhs; whnf); done) | ((conv => lhs; whnf); rfl)) (by rfl) (by rfl) (by kernel_rfl) rfl ?_; clear hM; intro W hM; simp only [List.set_cons_succ, List.set_cons_zero] at hM))
    go_ret
    refine ⟨.slice A1 (q.l.drop k).length cc, rfl, ?_⟩
    rw [HHQ.out, if_pos h0, if_pos h0, HHT.out]
    exact hM
  · obtain rfl : k = q.l.length := by omega
    go_upto_region 9 with         (first
          | go_skip
          | ((with_reducible refine at_box_ ?_); refine wpList_box_mem rfl _ _ rfl _ rfl hM ?_; clear hM; intro gb W hM; first | (simp only [List.nil_append] at hM) | (simp only [List.cons_append, List.nil_append] at hM))
          | ((with_reducible refine at_load_ ?_); refine at_wanted_ (by rfl) ?_; refine wpList_loadf_mem (by go_simp) _ _ rfl (by kernel_rfl) 0 _ _ _ _ _ hM rfl rfl (by first | rfl | assumption) ?_)
          | ((with_reducible refine at_store_ ?_); refine wpList_store1_mem rfl _ _ _ rfl 0 _ _ _ _ _ hM rfl rfl (by first | ((conv => lhs; whnf); done) | ((conv => lhs; whnf); rfl)) (by rfl) (by rfl) (by kernel_rfl) rfl ?_; clear hM; intro W hM; simp only [List.set] at hM))
    all_goals
      replace hM := hM.upd 1 rfl (World.grownBy.refl _ _) (winR_stab _ _ _ _ _) (show (ownR 0 (.slice none 0 0) []).P _ from Win.nil _ _ _) (fun j hj => by cases hj)
      simp only [List.set_cons_succ, List.set_cons_zero] at hM
      go_wp2_with (first
        | go_skip
        | ((with_reducible refine at_box_ ?_); refine wpList_box_mem rfl _ _ rfl _ rfl hM ?_; clear hM; intro gb W hM; first | (simp only [List.nil_append] at hM) | (simp only [List.cons_append, List.nil_append] at hM))
        | ((with_reducible refine at_load_ ?_); refine at_wanted_ (by rfl) ?_; refine wpList_loadf_mem (by go_simp) _ _ rfl (by kernel_rfl) 0 _ _ _ _ _ hM rfl rfl (by first | rfl | assumption) ?_)
        | ((with_reducible refine at_store_ ?_); refine wpList_store1_mem rfl _ _ _ rfl 0 _ _ _ _ _ hM rfl rfl (by first | ((conv => lhs; whnf); done) | ((conv => lhs; whnf); rfl)) (by rfl) (by rfl) (by kernel_rfl) rfl ?_; clear hM; intro W hM; simp only [List.set_cons_succ, List.set_cons_zero] at hM))
      go_ret
      refine ⟨.slice none 0 0, rfl, ?_⟩
      rw [HHQ.out, if_pos h0, if_pos h0, HHT.out, List.drop_length]
      exact hM
end Go.Proofs.Ytfpifahkpkjfgaa
