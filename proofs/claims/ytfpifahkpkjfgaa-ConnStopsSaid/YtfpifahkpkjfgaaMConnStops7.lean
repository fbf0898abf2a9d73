/- What ConnStops needs, a part: OutqN, OutqA, RtoC. -/
import Derived.Test.YtfpifahkpkjfgaaMConnStops5
import Derived.Test.YtfpifahkpkjfgaaMConnStops6
namespace Go.Proofs.Ytfpifahkpkjfgaa
open Go.RowKit Go.Lib
set_option linter.unusedVariables false
theorem oPiece_sz (q : OQ) (lim mss : Int) (ok : OqOk q) : (qPiece q q.cur lim mss).b.size ≤ 2048 := by
 unfold qPiece
 split
 ·split
  ·show (0 : Nat) ≤ 2048; omega
  ·show (byteS _).size ≤ 2048
   rw [byteS_sz]
   unfold oBody
   split
   ·have := ok.len
    rw [List.length_take, List.length_drop]; omega
   ·simp
 ·show (0 : Nat) ≤ 2048; omega
theorem oLen_hi (p : KPiece) (h : p.b.size ≤ 2048) : oLen p ≤ 2050 := by unfold oLen; split <;> split <;> omega
set_option maxRecDepth 100000 in
set_option maxHeartbeats 2000000 in
theorem oNext_any (g : Nat) (q : OQ) (v : Value) (lim mss : Int) (w : World) (hM : OPre w w g v q v) (ok : OqOk q) (hb2 : q.base ≤ 4611686018427387904)
  (hl : -9223372036854775808 ≤ lim ∧ lim ≤ 9223372036854775807) (hm : -9223372036854775808 ≤ mss ∧ mss ≤ 9223372036854775807) :
  Calls Try.prog 40 #[.pointer (some ⟨g, 0, none⟩), .int .i64 lim, .int .i64 mss] w fun e w' => e = .returned (.tuple #[.agg (cPiece (qPiece q q.cur lim mss)).toArray, .bool (oIs q q.cur lim mss)]) ∧ OPre w w' g v (oNext q lim mss) v := by
 have HP := Lib.hid (fun W (hA : OAt W g q v) (hV : OwnB W 0 v q.l) => piece_any g q v lim mss W hA hV ok hb2 hl hm)
 have hsz := oPiece_sz q lim mss ok
 have HQ : oNext q lim mss = { q with cur := q.cur + oLen (qPiece q q.cur lim mss), sent := if q.sent < q.cur + oLen (qPiece q q.cur lim mss) then q.cur + oLen (qPiece q q.cur lim mss) else q.sent } := rfl
 have hcb : 0 ≤ q.cur ∧ q.cur ≤ 4611686018427390000 := by
  have := ok.uc; have := ok.cs; have := ok.se; have := ok.ee; have := ok.len; have := qEnd_bd (q := q); unfold oFin at this; omega
 generalize qPiece q q.cur lim mss = p at *
 generalize oIs q q.cur lim mss = is at *
 have h1 := oLen_lo p
 have h2 := oLen_hi p hsz
 have LN := Lib.hid (fun W => length_any p W (by omega))
 generalize oLen p = n at *
 have HHQ := Lib.hid HQ
 clear ok HQ hl hm
 go_enter Try.func40, Try.ntmps40
 go_upto_region 2 with         (first
     | go_skip
     | (go_at_call 62; go_must (refine (HP.out _ (hM.at_ 0 rfl) (hM.own 1 rfl)).mono ?_; rintro e W ⟨rfl, hb⟩); replace hM := hM.kept hb; clear hb)
     | ((with_reducible refine at_box_ ?_); refine wpList_box_mem rfl _ _ rfl _ rfl hM ?_; clear hM; intro gb W hM; first | (simp only [List.nil_append] at hM) | (simp only [List.cons_append, List.nil_append] at hM))
     | ((with_reducible refine at_alloc_ (T := 87) ?_); refine wpList_alloc_mem rfl 87 rfl _ zv_Piece _ rfl hM ?_; clear hM; intro gb W hM; first | (simp only [List.nil_append] at hM) | (simp only [List.cons_append, List.nil_append] at hM))
     | ((with_reducible refine at_load_ (T := 87) ?_); refine at_wanted_ (by rfl) ?_; first | (refine wpList_loadg_mem (by go_simp) 87 _ rfl 0 _ _ _ hM rfl rfl _ Try.underlying87 rfl sz_Piece ?_) | (refine wpList_loadg_mem (by go_simp) 87 _ rfl 1 _ _ _ hM rfl rfl _ Try.underlying87 rfl sz_Piece ?_) | (refine wpList_loadg_mem (by go_simp) 87 _ rfl 2 _ _ _ hM rfl rfl _ Try.underlying87 rfl sz_Piece ?_) | (refine wpList_loadg_mem (by go_simp) 87 _ rfl 3 _ _ _ hM rfl rfl _ Try.underlying87 rfl sz_Piece ?_))
     | ((with_reducible refine at_store_ (T := 87) ?_); first | (refine wpList_store_mem rfl 87 _ _ rfl 0 _ _ _ _ hM rfl rfl rfl rfl sz_Piece rfl ?_; clear hM; intro W hM; simp only [zE] at hM) | (refine wpList_store_mem rfl 87 _ _ rfl 1 _ _ _ _ hM rfl rfl rfl rfl sz_Piece rfl ?_; clear hM; intro W hM; simp only [zF, zE] at hM) | (refine wpList_store_mem rfl 87 _ _ rfl 2 _ _ _ _ hM rfl rfl rfl rfl sz_Piece rfl ?_; clear hM; intro W hM; simp only [zF, zE] at hM) | (refine wpList_store_mem rfl 87 _ _ rfl 3 _ _ _ _ hM rfl rfl rfl rfl sz_Piece rfl ?_; clear hM; intro W hM; simp only [zF, zE] at hM))
     | ((with_reducible refine at_load_ ?_); refine at_wanted_ (by rfl) ?_; first | (refine lM 0 hM rfl rfl rfl (by first | rfl | assumption) ?_) | (refine lM 1 hM rfl rfl rfl (by first | rfl | assumption) ?_) | (refine lM 2 hM rfl rfl rfl (by first | rfl | assumption) ?_) | (refine lM 3 hM rfl rfl rfl (by first | rfl | assumption) ?_))
     | ((with_reducible refine at_store_ ?_); first | (refine sM 0 hM rfl rfl rfl ?_; clear hM; intro W hM; simp only [zF, zE] at hM) | (refine sM 1 hM rfl rfl rfl ?_; clear hM; intro W hM; simp only [zF, zE] at hM) | (refine sM 2 hM rfl rfl rfl ?_; clear hM; intro W hM; simp only [zF, zE] at hM) | (refine sM 3 hM rfl rfl rfl ?_; clear hM; intro W hM; simp only [zF, zE] at hM)))
 have c0 := hM.cells 0 rfl
 have l0 := hM.lt 0 rfl
 have c3 := hM.cells 3 rfl
 have l3 := hM.lt 3 rfl
 simp only [oqC] at c0
 simp only [cPiece] at c3
 refine wp_region_later_tail 9 (by kernel_rfl) (by kernel_rfl) (fun hlc => ?_)
 simp only [List.take_succ_cons, List.take_zero, List.drop_succ_cons, List.drop_zero]
 repeat (go_big_quiet_step ((go_at_call 65; exact later_call (LN.out _))))
 refine wpQuiet_nil ?_
 intro wq hbq
 clear hlc c0 c3 l0 l3
 replace hM := hM.kept hbq
 clear hbq
 go_upto_region 3 with         (first
     | go_skip
     | ((with_reducible refine at_box_ ?_); refine wpList_box_mem rfl _ _ rfl _ rfl hM ?_; clear hM; intro gb W hM; first | (simp only [List.nil_append] at hM) | (simp only [List.cons_append, List.nil_append] at hM))
     | ((with_reducible refine at_load_ ?_); refine at_wanted_ (by rfl) ?_; refine lM 0 hM rfl rfl rfl (by first | rfl | assumption) ?_)
     | ((with_reducible refine at_store_ ?_); refine sM 0 hM rfl rfl rfl ?_; clear hM; intro W hM; simp only [oqA, oqB, oqC, zF, zE] at hM))
 have c0 := hM.cells 0 rfl
 have l0 := hM.lt 0 rfl
 simp only [Act.put]
 refine wp_region_later_tail 12 (by kernel_rfl) (by kernel_rfl) (fun hlc => ?_)
 simp only [List.take_succ_cons, List.take_zero, List.drop_succ_cons, List.drop_zero]
 repeat (go_big_quiet_step (fail))
 refine wpQuiet_nil ?_
 intro wq hbq
 clear hlc c0 l0
 replace hM := hM.kept hbq
 clear hbq
 go_wp2_with (first
  | go_skip
  | ((with_reducible refine at_box_ ?_); refine wpList_box_mem rfl _ _ rfl _ rfl hM ?_; clear hM; intro gb W hM; first | (simp only [List.nil_append] at hM) | (simp only [List.cons_append, List.nil_append] at hM))
  | ((with_reducible refine at_alloc_ (T := 87) ?_); refine wpList_alloc_mem rfl 87 rfl _ zv_Piece _ rfl hM ?_; clear hM; intro gb W hM; first | (simp only [List.nil_append] at hM) | (simp only [List.cons_append, List.nil_append] at hM))
  | ((with_reducible refine at_load_ (T := 87) ?_); refine at_wanted_ (by rfl) ?_; first | (refine wpList_loadg_mem (by go_simp) 87 _ rfl 0 _ _ _ hM rfl rfl _ Try.underlying87 rfl sz_Piece ?_) | (refine wpList_loadg_mem (by go_simp) 87 _ rfl 1 _ _ _ hM rfl rfl _ Try.underlying87 rfl sz_Piece ?_) | (refine wpList_loadg_mem (by go_simp) 87 _ rfl 2 _ _ _ hM rfl rfl _ Try.underlying87 rfl sz_Piece ?_) | (refine wpList_loadg_mem (by go_simp) 87 _ rfl 3 _ _ _ hM rfl rfl _ Try.underlying87 rfl sz_Piece ?_))
  | ((with_reducible refine at_store_ (T := 87) ?_); first | (refine wpList_store_mem rfl 87 _ _ rfl 0 _ _ _ _ hM rfl rfl rfl rfl sz_Piece rfl ?_; clear hM; intro W hM; simp only [zE] at hM) | (refine wpList_store_mem rfl 87 _ _ rfl 1 _ _ _ _ hM rfl rfl rfl rfl sz_Piece rfl ?_; clear hM; intro W hM; simp only [zF, zE] at hM) | (refine wpList_store_mem rfl 87 _ _ rfl 2 _ _ _ _ hM rfl rfl rfl rfl sz_Piece rfl ?_; clear hM; intro W hM; simp only [zF, zE] at hM) | (refine wpList_store_mem rfl 87 _ _ rfl 3 _ _ _ _ hM rfl rfl rfl rfl sz_Piece rfl ?_; clear hM; intro W hM; simp only [zF, zE] at hM))
  | ((with_reducible refine at_load_ ?_); refine at_wanted_ (by rfl) ?_; first | (refine lM 0 hM rfl rfl rfl (by first | rfl | assumption) ?_) | (refine lM 1 hM rfl rfl rfl (by first | rfl | assumption) ?_) | (refine lM 2 hM rfl rfl rfl (by first | rfl | assumption) ?_) | (refine lM 3 hM rfl rfl rfl (by first | rfl | assumption) ?_))
  | ((with_reducible refine at_store_ ?_); first | (refine sM 0 hM rfl rfl rfl ?_; clear hM; intro W hM; simp only [zF, zE] at hM) | (refine sM 1 hM rfl rfl rfl ?_; clear hM; intro W hM; simp only [zF, zE] at hM) | (refine sM 2 hM rfl rfl rfl ?_; clear hM; intro W hM; simp only [zF, zE] at hM) | (refine sM 3 hM rfl rfl rfl ?_; clear hM; intro W hM; simp only [zF, zE] at hM)))
 all_goals
  have hcz := hM.cells 2 rfl
  refine bodyPost_ret (v := .tuple #[.agg (cPiece p).toArray, .bool is]) (by simp [results, Try.results40, go_sem, hcz, cPiece]) rfl ?_
  refine ⟨rfl, ?_⟩
  rw [HHQ.out]
  exact hM.take_ 2
theorem grown_none {w w' : World} (h : w.grownBy w' none) (row : Option Nat) : w.grownBy w' row := ⟨h.os, h.tape, h.output, h.size, fun k hk _ => h.block k hk (by simp)⟩
theorem elem_b1 : ∃ i z, Try.prog.info? 5 = some i ∧ i.zero = some z ∧ i.size = 1 ∧ i.bytes = 1 ∧ z.cells.size = 1 := elem_u8
set_option maxRecDepth 100000 in
set_option maxHeartbeats 1000000 in
theorem ack_no (g : Nat) (q : OQ) (v : Value) (a : Int) (w : World) (hM : OPre w w g v q v) (h : oHit q a = false) :
  Calls Try.prog 87 #[.pointer (some ⟨g, 0, none⟩), .int .i64 a] w fun e w' => e = .returned (.int .i64 0) ∧ OPre w w' g v q v := by
 have hA := hM.at_ 0 rfl
 have c0 := hA.cell
 have l0 := hA.lt
 simp only [oqC] at c0
 unfold oHit at h
 by_cases h1 : a ≤ q.una
 ·have t1 : decide (a ≤ q.una) = true := by simpa using h1
  clear h
  go_enter Try.func87, Try.ntmps87
  go_wp2_with fail
  go_ret
  exact ⟨rfl, hM⟩
 ·have t1 : decide (a ≤ q.una) = false := by simpa using h1
  have h2 : q.sent < a := by
   by_cases h2 : q.sent < a
   ·exact h2
   ·rw [decide_eq_true (show q.una < a by omega), decide_eq_true (show a ≤ q.sent by omega)] at h; cases h
  have t2 : decide (q.sent < a) = true := by simpa using h2
  clear h
  go_enter Try.func87, Try.ntmps87
  go_wp2_with fail
  go_ret
  exact ⟨rfl, hM⟩
set_option maxRecDepth 100000 in
set_option maxHeartbeats 4000000 in
theorem ack_yes (g : Nat) (q : OQ) (v : Value) (a : Int) (w : World) (hM : OPre w w g v q v) (ok : OqOk q) (hb2 : q.base ≤ 4611686018427387904) (h : oHit q a = true) :
  Calls Try.prog 87 #[.pointer (some ⟨g, 0, none⟩), .int .i64 a] w fun e w' => ∃ v', e = .returned (.int .i64 (a - q.una)) ∧ OPre w w' g v (oAck q a) v' := by
 have hn := ack_n ok a h
 have HQ : oAck q a = ⟨if 0 < oAckN q a then q.l.drop (oAckN q a).toNat else q.l, if 0 < oAckN q a then q.base + oAckN q a else q.base, a, if q.cur < a then a else q.cur, q.sent, q.cl⟩ := by unfold oAck; rw [if_pos h]
 have hh := h
 unfold oHit at hh
 simp only [Bool.and_eq_true, decide_eq_true_eq] at hh
 obtain ⟨h1, h2⟩ := hh
 have hlen := ok.len
 have hba := ok.ba
 have huc := ok.uc
 have hse : q.sent ≤ 4611686018427390000 := by have := ok.ee; have := qEnd_bd (q := q); unfold oFin at this; omega
 have hfd : oFin q = q.base + q.l.length := rfl
 have hnd : oAckN q a = (if a < oFin q then a else oFin q) - q.base := rfl
 have HF := Lib.hid (fun W (hA : OAt W g { q with una := a, cur := if q.cur < a then a else q.cur } v) (hV : OwnB W 0 v q.l) => fin_any g { q with una := a, cur := if q.cur < a then a else q.cur } v W hA hV hlen hba hb2)
 have hfe : oFin { q with una := a, cur := if q.cur < a then a else q.cur } = oFin q := rfl
 rw [hfe] at HF
 have hmn : (if oFin q < a then oFin q else a) = (if a < oFin q then a else oFin q) := by split <;> split <;> omega
 have hmx : (if q.cur < a then a else q.cur) = (if q.cur < a then a else q.cur) := rfl
 generalize hN : oAckN q a = n at *
 generalize oFin q = F at *
 generalize hMI : (if a < F then a else F) = mi at *
 generalize hCU : (if q.cur < a then a else q.cur) = cu at *
 have t1 : decide (a ≤ q.una) = false := by simp; omega
 have t2 : decide (q.sent < a) = false := by simp; omega
 have c0 := (hM.at_ 0 rfl).cell
 have l0 := (hM.at_ 0 rfl).lt
 simp only [oqC] at c0
 have HHQ := Lib.hid HQ
 have HNM := Lib.hid hnd
 have hn1 := hn.1
 have hn2 := hn.2
 have hmi : mi - q.base = n := by omega
 clear HQ ok h hfe hmx hn hnd hfd
 go_enter Try.func87, Try.ntmps87
 go_upto_region 4 with fail
 clear c0 l0
 go_upto_region 6 with         (first
     | go_skip
     | ((with_reducible refine at_box_ ?_); refine wpList_box_mem rfl _ _ rfl _ rfl hM ?_; clear hM; intro gb W hM; first | (simp only [List.nil_append] at hM) | (simp only [List.cons_append, List.nil_append] at hM))
     | ((with_reducible refine at_load_ ?_); refine at_wanted_ (by rfl) ?_; refine lM 0 hM rfl rfl rfl (by first | rfl | assumption) ?_)
     | ((with_reducible refine at_store_ ?_); refine sM 0 hM rfl rfl rfl ?_; clear hM; intro W hM; simp only [oqA, oqB, oqC, zF, zE] at hM))
 have hX : OAt W g { q with una := a, cur := cu } v := hM.at_ 0 rfl
 have hY : OwnB W 0 v q.l := hM.own 1 rfl
 have HFU := Lib.hid (fun (u : Later W) => HF.out u.now (hX.kept u.still) (hY.kept u.still))
 have c0 := hX.cell
 have l0 := hX.lt
 simp only [oqC] at c0
 clear hX hY
 simp only [Act.put]
 refine wp_region_later (by kernel_rfl) (by kernel_rfl) (fun hlc => ?_)
 repeat (go_big_quiet_step ((go_at_call 83; exact later_call (HFU.out _))))
 refine wpQuiet_nil ?_
 intro wq hbq
 clear hlc c0 l0 HFU HF
 replace hM := hM.kept hbq
 clear hbq
 by_cases h0 : 0 < n
 rotate_left
 ·have t3 : decide (0 < n) = false := by simpa using h0
  go_wp2_with (first
   | go_skip
   | ((with_reducible refine at_box_ ?_); refine wpList_box_mem rfl _ _ rfl _ rfl hM ?_; clear hM; intro gb W hM; first | (simp only [List.nil_append] at hM) | (simp only [List.cons_append, List.nil_append] at hM))
   | ((with_reducible refine at_load_ ?_); refine at_wanted_ (by rfl) ?_; refine lM 0 hM rfl rfl rfl (by first | rfl | assumption) ?_)
   | ((with_reducible refine at_store_ ?_); refine sM 0 hM rfl rfl rfl ?_; clear hM; intro W hM; simp only [zF, zE] at hM))
  go_ret
  refine ⟨rfl, v, ?_⟩
  rw [HHQ.out, if_neg (by omega), if_neg (by omega)]
  exact hM
 have t3 : decide (0 < n) = true := by simpa using h0
 obtain ⟨k, hk⟩ : ∃ k : Nat, n = (k : Int) := ⟨n.toNat, by omega⟩
 subst hk
 obtain ⟨g2, off, cap, rfl, hW⟩ := (hM.own 1 rfl).pos (by omega)
 have hcap := hW.le
 have e1 : 0 < k := by omega
 have e2 : k ≤ q.l.length := by omega
 have e3 : (k : Int) ≤ (q.l.length : Int) := by omega
 have e4 : (0 : Int) ≤ (k : Int) := by omega
 have HT : ((k : Int)).toNat = k := by omega
 have HWW := Lib.hid hW
 have HHT := Lib.hid HT
 clear hW HT
 by_cases hkl : k < q.l.length
 ·have v9 : (cap = k) = False := eq_false (by omega)
  go_upto_region 9 with         (first
     | go_skip
     | (at_builtin; obtain ⟨iG, zG, iG0, iG1, iG2, iG3, iG4⟩ := elem_b1; refine wpList_append_win rfl _ _ 104 rfl 0 5 iG zG 1 1 Try.underlying104 iG0 iG1 iG2 iG3 iG4 (by decide) (.slice none 0 0) 0 [] rfl (Win.nil _ _ _) ⟨g2, off + k, none⟩ (q.l.length - k) (cap - k) ((q.l.drop k).map b8) rfl ?len ?news ?one ?pos ?mx ?byt (Nat.zero_le _) ?_)
     | ((with_reducible refine at_box_ ?_); refine wpList_box_mem rfl _ _ rfl _ rfl hM ?_; clear hM; intro gb W hM; first | (simp only [List.nil_append] at hM) | (simp only [List.cons_append, List.nil_append] at hM))
     | ((with_reducible refine at_load_ ?_); refine at_wanted_ (by rfl) ?_; refine lM 0 hM rfl rfl rfl (by first | rfl | assumption) ?_)
     | ((with_reducible refine at_store_ ?_); refine sM 0 hM rfl rfl rfl ?_; clear hM; intro W hM; simp only [zF, zE] at hM))
  case len => rw [List.length_map, List.length_drop, Nat.mul_one]
  case news =>
   intro j u hj
   rw [Addr.add_mid]
   have hW2 := HWW.out.here (k + j) u (by rw [← hj, List.getElem?_map, List.getElem?_map, List.getElem?_drop])
   rw [Nat.add_assoc]
   exact hW2
  case one => exact b8_one _
  case pos => omega
  case mx => simp only [maxLen]; omega
  case byt => omega
  intro v1 w1 hV1 hO1 hat1
  have hV2 : OwnB w1 0 v1 (q.l.drop k) := by
   unfold OwnB
   rw [List.length_drop]
   simpa using hV1
  replace hM := hM.upd 1 rfl (grown_none hO1 _) (winR_stab _ _ _ _ _) (show (ownR 0 v1 (q.l.drop k)).P w1 from hV2) (fun j hj => ⟨by
   have hj2 : v1.ownBlock = some j := hj
   rcases hat1 with e | ⟨m, e, hm⟩
   ·rw [e] at hj2; cases hj2
   ·rw [e] at hj2; cases hj2; exact .inr hm, (hV2.lt j hj).2⟩)
  simp only [zF, zE] at hM
  obtain ⟨A1, cc, rfl⟩ := hV2.form
  clear hV1 hV2 hO1 hat1
  go_upto_region 9 with         (first
     | go_skip
     | ((with_reducible refine at_box_ ?_); refine wpList_box_mem rfl _ _ rfl _ rfl hM ?_; clear hM; intro gb W hM; first | (simp only [List.nil_append] at hM) | (simp only [List.cons_append, List.nil_append] at hM))
     | ((with_reducible refine at_load_ ?_); refine at_wanted_ (by rfl) ?_; refine lM 0 hM rfl rfl rfl (by first | rfl | assumption) ?_)
     | ((with_reducible refine at_store_ ?_); refine sM 0 hM rfl rfl rfl ?_; clear hM; intro W hM; simp only [List.set] at hM))
  go_wp2_with (first
   | go_skip
   | ((with_reducible refine at_box_ ?_); refine wpList_box_mem rfl _ _ rfl _ rfl hM ?_; clear hM; intro gb W hM; first | (simp only [List.nil_append] at hM) | (simp only [List.cons_append, List.nil_append] at hM))
   | ((with_reducible refine at_load_ ?_); refine at_wanted_ (by rfl) ?_; refine lM 0 hM rfl rfl rfl (by first | rfl | assumption) ?_)
   | ((with_reducible refine at_store_ ?_); refine sM 0 hM rfl rfl rfl ?_; clear hM; intro W hM; simp only [zF, zE] at hM))
  go_ret
  refine ⟨.slice A1 (q.l.drop k).length cc, rfl, ?_⟩
  rw [HHQ.out, if_pos h0, if_pos h0, HHT.out]
  exact hM
 ·obtain rfl : k = q.l.length := by omega
  go_upto_region 9 with         (first
     | go_skip
     | ((with_reducible refine at_box_ ?_); refine wpList_box_mem rfl _ _ rfl _ rfl hM ?_; clear hM; intro gb W hM; first | (simp only [List.nil_append] at hM) | (simp only [List.cons_append, List.nil_append] at hM))
     | ((with_reducible refine at_load_ ?_); refine at_wanted_ (by rfl) ?_; refine lM 0 hM rfl rfl rfl (by first | rfl | assumption) ?_)
     | ((with_reducible refine at_store_ ?_); refine sM 0 hM rfl rfl rfl ?_; clear hM; intro W hM; simp only [List.set] at hM))
  all_goals
   replace hM := hM.upd 1 rfl (World.grownBy.refl _ _) (winR_stab _ _ _ _ _) (show (ownR 0 (.slice none 0 0) []).P _ from Win.nil _ _ _) (fun j hj => by cases hj)
   simp only [zF, zE] at hM
   go_wp2_with (first
    | go_skip
    | ((with_reducible refine at_box_ ?_); refine wpList_box_mem rfl _ _ rfl _ rfl hM ?_; clear hM; intro gb W hM; first | (simp only [List.nil_append] at hM) | (simp only [List.cons_append, List.nil_append] at hM))
    | ((with_reducible refine at_load_ ?_); refine at_wanted_ (by rfl) ?_; refine lM 0 hM rfl rfl rfl (by first | rfl | assumption) ?_)
    | ((with_reducible refine at_store_ ?_); refine sM 0 hM rfl rfl rfl ?_; clear hM; intro W hM; simp only [zF, zE] at hM))
   go_ret
   refine ⟨.slice none 0 0, rfl, ?_⟩
   rw [HHQ.out, if_pos h0, if_pos h0, HHT.out, List.drop_length]
   exact hM
end Go.Proofs.Ytfpifahkpkjfgaa
namespace Go.Proofs.Ytfpifahkpkjfgaa
open Go.RowKit
set_option linter.unusedVariables false
def timer (k : Bool) (m s d : Int) : List Value := [.bool k, .int .i64 m, .int .i64 s, .int .i64 d]
abbrev TimerAt (w : World) (g : Nat) (k : Bool) (m s d : Int) : Prop := At w g 109 (timer k m s d)
def TimerOk (m s d : Int) : Prop := 0 ≤ m ∧ m ≤ 8796093022208 ∧ 0 ≤ s ∧ s ≤ 4398046511104 ∧ 0 ≤ d ∧ d ≤ 6
theorem rtoNew_any (w : World) : Calls Try.prog 61 #[] w fun e w' => e = .returned (.pointer (some ⟨w.heap.size, 0, none⟩)) ∧ TimerAt w' w.heap.size false 0 0 0 ∧ Below w.heap.size w w' := by
 go_enter Try.func61, Try.ntmps61
 go_wp2
 go_ret
 exact ⟨rfl, At.new_ _ _ _, below_ca (Below.refl _ _) _⟩
def baseZ (k : Bool) (m s : Int) : Int := if k then m / 8 + (if 1 < s then s else 1) else 3
def clipZ (n : Int) : Int := if n < 2 then 2 else if 64 < n then 64 else n
def valZ (k : Bool) (m s d : Int) : Int := clipZ (baseZ k m s * 2 ^ d.toNat)
theorem pow_bd (d : Int) (h : 0 ≤ d) (h' : d ≤ 6) : (1 : Int) ≤ 2 ^ d.toNat ∧ (2 : Int) ^ d.toNat ≤ 64 := by
 have : d = 0 ∨ d = 1 ∨ d = 2 ∨ d = 3 ∨ d = 4 ∨ d = 5 ∨ d = 6 := by omega
 rcases this with rfl | rfl | rfl | rfl | rfl | rfl | rfl <;> decide
theorem prod_bd (a b : Int) (h1 : 1 ≤ a) (h2 : a ≤ 5497558138881) (h3 : 1 ≤ b) (h4 : b ≤ 64) : 1 ≤ a * b ∧ a * b ≤ 351843768888384 := by
 have e1 : 1 * 1 ≤ a * b := Int.mul_le_mul h1 h3 (by omega) (by omega)
 have e2 : a * b ≤ 5497558138881 * 64 := Int.mul_le_mul h2 h4 (by omega) (by omega)
 omega
set_option maxHeartbeats 400000 in
theorem Value_any (g : Nat) (k : Bool) (m s d : Int) (w : World) (hT : TimerAt w g k m s d) (ho : TimerOk m s d) :
  Calls Try.prog 45 #[.pointer (some ⟨g, 0, none⟩)] w fun e w' => e = .returned (.int .i64 (valZ k m s d)) ∧ Below w.heap.size w w' := by
 have c0 : w.cell? ⟨g, 0, none⟩ = some (.bool k) := hT.cell 0
 have c1 : w.cell? ⟨g, 1, none⟩ = some (.int .i64 m) := hT.cell 1
 have c2 : w.cell? ⟨g, 2, none⟩ = some (.int .i64 s) := hT.cell 2
 have c3 : w.cell? ⟨g, 3, none⟩ = some (.int .i64 d) := hT.cell 3
 obtain ⟨h1, h2, h3, h4, h5, h6⟩ := ho
 obtain ⟨p1, p2⟩ := pow_bd d h5 h6
 cases k
 ·go_enter Try.func45, Try.ntmps45
  go_wp2
  all_goals
   go_ret
   exact ⟨ret_int (by simp only [valZ, clipZ, baseZ, Bool.false_eq_true, if_false]; split <;> (try split) <;> omega), Below.refl _ _⟩
 ·by_cases hs : 1 < s
  ·obtain ⟨q1, q2⟩ := prod_bd (m / 8 + s) _ (by omega) (by omega) p1 p2
   go_enter Try.func45, Try.ntmps45
   go_wp2_with fail
   go_quiet (fail)
   go_wp2
   all_goals
    go_ret
    exact ⟨ret_int (by simp only [valZ, clipZ, baseZ, if_true]; rw [show (if 1 < s then s else 1) = s from if_pos hs]; split <;> (try split) <;> omega), below_dn (Below.refl _ _) _⟩
  ·obtain ⟨q1, q2⟩ := prod_bd (m / 8 + 1) _ (by omega) (by omega) p1 p2
   go_enter Try.func45, Try.ntmps45
   go_wp2_with fail
   go_quiet (fail)
   go_wp2
   all_goals
    go_ret
    exact ⟨ret_int (by simp only [valZ, clipZ, baseZ, if_true]; rw [show (if 1 < s then s else 1) = 1 from if_neg (by omega)]; split <;> (try split) <;> omega), below_dn (Below.refl _ _) _⟩
theorem Late_any (g : Nat) (k : Bool) (m s d : Int) (w : World) (hT : TimerAt w g k m s d) (ho : TimerOk m s d) :
  Calls Try.prog 69 #[.pointer (some ⟨g, 0, none⟩)] w fun e w' => e = .returned (.tuple #[]) ∧ TimerAt w' g k m s (if d < 6 then d + 1 else 6) ∧ w.grownBy w' (some g) := by
 have c3 : w.cell? ⟨g, 3, none⟩ = some (.int .i64 d) := hT.cell 3
 have f3 : w.frozen? ⟨g, 3, none⟩ = false := hT.free 3
 obtain ⟨h1, h2, h3, h4, h5, h6⟩ := ho
 by_cases hd : d < 6
 ·rw [if_pos hd]
  go_enter Try.func69, Try.ntmps69
  go_wp2
  go_end0
  exact ⟨rfl, hT.set_ 3 _, only_set (only_refl _ _) (.inl rfl) _⟩
 ·rw [if_neg hd]
  have hd6 : d = 6 := by omega
  subst hd6
  go_enter Try.func69, Try.ntmps69
  go_wp2
  go_end0
  exact ⟨rfl, hT.set_ 3 _, only_set (only_refl _ _) (.inl rfl) _⟩
theorem Sample_no (g : Nat) (r : Int) (w : World) (hr : r < 0 ∨ 1099511627776 < r) :
  Calls Try.prog 88 #[.pointer (some ⟨g, 0, none⟩), .int .i64 r] w fun e w' => e = .returned (.int .i64 1) ∧ w = w' := by
 by_cases h : r < 0
 ·go_enter Try.func88, Try.ntmps88
  go_wp2
  go_ret
  exact ⟨rfl, rfl⟩
 ·have h2 : 1099511627776 < r := by omega
  clear hr
  go_enter Try.func88, Try.ntmps88
  go_wp2
  go_ret
  exact ⟨rfl, rfl⟩
set_option maxHeartbeats 400000 in
theorem Sample_first (g : Nat) (m s d r : Int) (w : World) (hT : TimerAt w g false m s d) (hr : 0 ≤ r) (hr' : r ≤ 1099511627776) :
  Calls Try.prog 88 #[.pointer (some ⟨g, 0, none⟩), .int .i64 r] w fun e w' => e = .returned (.int .i64 0) ∧ TimerAt w' g true (r * 8) (r * 2) 0 ∧ w.grownBy w' (some g) := by
 have c0 : w.cell? ⟨g, 0, none⟩ = some (.bool false) := hT.cell 0
 have c1 : w.cell? ⟨g, 1, none⟩ = some (.int .i64 m) := hT.cell 1
 have c2 : w.cell? ⟨g, 2, none⟩ = some (.int .i64 s) := hT.cell 2
 have c3 : w.cell? ⟨g, 3, none⟩ = some (.int .i64 d) := hT.cell 3
 have f0 : w.frozen? ⟨g, 0, none⟩ = false := hT.free 0
 have f1 : w.frozen? ⟨g, 1, none⟩ = false := hT.free 1
 have f2 : w.frozen? ⟨g, 2, none⟩ = false := hT.free 2
 have f3 : w.frozen? ⟨g, 3, none⟩ = false := hT.free 3
 go_enter Try.func88, Try.ntmps88
 go_wp2
 go_ret
 refine ⟨rfl, ?_, ?_⟩
 apply At.conv
 case h => repeat' (first | with_reducible exact hT | with_reducible apply At.set_ | with_reducible apply At.drew | with_reducible apply At.drewN | with_reducible apply At.alloc)
 case e => rfl
 repeat' (first | with_reducible exact only_refl _ _ | with_reducible assumption | with_reducible refine only_drew ?_ | with_reducible refine only_dn ?_ _ | with_reducible refine only_alloc ?_ _ | with_reducible refine only_set ?_ (.inl rfl) _ | with_reducible refine only_set ?_ (.inr (by simp)) _ | (refine only_below ?_ (by with_reducible assumption)) | (refine only_trans ?_ (by with_reducible assumption)))
def absZ (d : Int) : Int := if d < 0 then -d else d
set_option maxHeartbeats 400000 in
theorem Sample_next (g : Nat) (m s d r : Int) (w : World) (hT : TimerAt w g true m s d) (ho : TimerOk m s d) (hr : 0 ≤ r) (hr' : r ≤ 1099511627776) :
  Calls Try.prog 88 #[.pointer (some ⟨g, 0, none⟩), .int .i64 r] w fun e w' => e = .returned (.int .i64 0) ∧ TimerAt w' g true (m + (r - m / 8)) (s + (absZ (r - m / 8) - s / 4)) 0 ∧ w.grownBy w' (some g) := by
 have c0 : w.cell? ⟨g, 0, none⟩ = some (.bool true) := hT.cell 0
 have c1 : w.cell? ⟨g, 1, none⟩ = some (.int .i64 m) := hT.cell 1
 have c2 : w.cell? ⟨g, 2, none⟩ = some (.int .i64 s) := hT.cell 2
 have c3 : w.cell? ⟨g, 3, none⟩ = some (.int .i64 d) := hT.cell 3
 have f1 : w.frozen? ⟨g, 1, none⟩ = false := hT.free 1
 have f2 : w.frozen? ⟨g, 2, none⟩ = false := hT.free 2
 have f3 : w.frozen? ⟨g, 3, none⟩ = false := hT.free 3
 obtain ⟨h1, h2, h3, h4, h5, h6⟩ := ho
 by_cases hn : r - m / 8 < 0
 ·rw [show absZ (r - m / 8) = -(r - m / 8) from if_pos hn]
  go_enter Try.func88, Try.ntmps88
  go_wp2
  go_region
  all_goals
   go_wp2
   go_ret
   refine ⟨rfl, ?_, ?_⟩
   apply At.conv
   case h => repeat' (first | with_reducible exact hT | with_reducible apply At.set_ | with_reducible apply At.drew | with_reducible apply At.drewN | with_reducible apply At.alloc)
   case e => rfl
   repeat' (first | with_reducible exact only_refl _ _ | with_reducible assumption | with_reducible refine only_drew ?_ | with_reducible refine only_dn ?_ _ | with_reducible refine only_alloc ?_ _ | with_reducible refine only_set ?_ (.inl rfl) _ | with_reducible refine only_set ?_ (.inr (by simp)) _ | (refine only_below ?_ (by with_reducible assumption)) | (refine only_trans ?_ (by with_reducible assumption)))
 ·rw [show absZ (r - m / 8) = r - m / 8 from if_neg hn]
  go_enter Try.func88, Try.ntmps88
  go_wp2
  go_region
  all_goals
   go_wp2
   go_ret
   refine ⟨rfl, ?_, ?_⟩
   apply At.conv
   case h => repeat' (first | with_reducible exact hT | with_reducible apply At.set_ | with_reducible apply At.drew | with_reducible apply At.drewN | with_reducible apply At.alloc)
   case e => rfl
   repeat' (first | with_reducible exact only_refl _ _ | with_reducible assumption | with_reducible refine only_drew ?_ | with_reducible refine only_dn ?_ _ | with_reducible refine only_alloc ?_ _ | with_reducible refine only_set ?_ (.inl rfl) _ | with_reducible refine only_set ?_ (.inr (by simp)) _ | (refine only_below ?_ (by with_reducible assumption)) | (refine only_trans ?_ (by with_reducible assumption)))
theorem sample_ok (m s d r : Int) (ho : TimerOk m s d) (hr : 0 ≤ r) (hr' : r ≤ 1099511627776) : TimerOk (m + (r - m / 8)) (s + (absZ (r - m / 8) - s / 4)) 0 := by
 obtain ⟨h1, h2, h3, h4, h5, h6⟩ := ho
 unfold TimerOk absZ
 split <;> omega
theorem first_ok (r : Int) (hr : 0 ≤ r) (hr' : r ≤ 1099511627776) : TimerOk (r * 8) (r * 2) 0 := by unfold TimerOk; omega
theorem late_ok (m s d : Int) (ho : TimerOk m s d) : TimerOk m s (if d < 6 then d + 1 else 6) := by
 obtain ⟨h1, h2, h3, h4, h5, h6⟩ := ho
 unfold TimerOk
 split <;> omega
theorem zero_ok : TimerOk 0 0 0 := by unfold TimerOk; omega
end Go.Proofs.Ytfpifahkpkjfgaa
