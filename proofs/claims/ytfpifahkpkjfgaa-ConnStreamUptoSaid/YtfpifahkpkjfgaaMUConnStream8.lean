/- What UConnStream needs, a part: OutqN, OutqA, FnL, InqP. -/
import Derived.Test.YtfpifahkpkjfgaaMZ
import Derived.Test.YtfpifahkpkjfgaaMUConnStream1
import Derived.Test.YtfpifahkpkjfgaaMUConnStream6
import Derived.Test.YtfpifahkpkjfgaaMUConnStream7
/- The contract of outq's Next. -/
namespace Go.Proofs.Ytfpifahkpkjfgaa
open Go.RowKit Go.Lib
set_option linter.unusedVariables false
theorem oPiece_sz (q : OQ) (lim mss : Int) (ok : OqOk q) : (qPiece q q.cur lim mss).b.size ≤ 2048 := by
 unfold qPiece
 split
 ·split
  ·show (0 : Nat) ≤ 2048; omega
  ·show (byteS _).size ≤ 2048
   rw [byteS_sz]
   unfold oBody
   split
   ·have := ok.len
    rw [List.length_take, List.length_drop]; omega
   ·simp
 ·show (0 : Nat) ≤ 2048; omega
theorem oLen_hi (p : KPiece) (h : p.b.size ≤ 2048) : oLen p ≤ 2050 := by unfold oLen; split <;> split <;> omega
set_option maxRecDepth 100000 in
set_option maxHeartbeats 2000000 in
theorem oNext_any (g : Nat) (q : OQ) (v : Value) (lim mss : Int) (w : World) (hM : OPre w w g v q v) (ok : OqOk q) (hb2 : q.base ≤ 4611686018427387904)
  (hl : -9223372036854775808 ≤ lim ∧ lim ≤ 9223372036854775807) (hm : -9223372036854775808 ≤ mss ∧ mss ≤ 9223372036854775807) :
  Calls Try.prog 40 #[.pointer (some ⟨g, 0, none⟩), .int .i64 lim, .int .i64 mss] w fun e w' => e = .returned (.tuple #[.agg (cPiece (qPiece q q.cur lim mss)).toArray, .bool (oIs q q.cur lim mss)]) ∧ OPre w w' g v (oNext q lim mss) v := by
 have HP := Lib.hid (fun W (hA : OAt W g q v) (hV : OwnB W 0 v q.l) => piece_any g q v lim mss W hA hV ok hb2 hl hm)
 have hsz := oPiece_sz q lim mss ok
 have HQ : oNext q lim mss = { q with cur := q.cur + oLen (qPiece q q.cur lim mss), sent := if q.sent < q.cur + oLen (qPiece q q.cur lim mss) then q.cur + oLen (qPiece q q.cur lim mss) else q.sent } := rfl
 have hcb : 0 ≤ q.cur ∧ q.cur ≤ 4611686018427390000 := by
  have := ok.uc; have := ok.cs; have := ok.se; have := ok.ee; have := ok.len; have := qEnd_bd (q := q); unfold oFin at this; omega
 generalize qPiece q q.cur lim mss = p at *
 generalize oIs q q.cur lim mss = is at *
 have h1 := oLen_lo p
 have h2 := oLen_hi p hsz
 have LN := Lib.hid (fun W => length_any p W (by omega))
 generalize oLen p = n at *
 have HHQ := Lib.hid HQ
 clear ok HQ hl hm
 go_enter Try.func40, Try.ntmps40
 go_upto_region 2 with         (first
     | go_skip
     | (go_at_call 62; go_must (refine (HP.out _ (hM.at_ 0 rfl) (hM.own 1 rfl)).mono ?_; rintro e W ⟨rfl, hb⟩); replace hM := hM.kept hb; clear hb)
     | ((with_reducible refine at_box_ ?_); refine wpList_box_mem rfl _ _ rfl _ rfl hM ?_; clear hM; intro gb W hM; first | (simp only [List.nil_append] at hM) | (simp only [List.cons_append, List.nil_append] at hM))
     | ((with_reducible refine at_alloc_ (T := 87) ?_); refine wpList_alloc_mem rfl 87 rfl _ zv_Piece _ rfl hM ?_; clear hM; intro gb W hM; first | (simp only [List.nil_append] at hM) | (simp only [List.cons_append, List.nil_append] at hM))
     | ((with_reducible refine at_load_ (T := 87) ?_); refine at_wanted_ (by rfl) ?_; first | (refine wpList_loadg_mem (by go_simp) 87 _ rfl 0 _ _ _ hM rfl rfl _ Try.underlying87 rfl sz_Piece ?_) | (refine wpList_loadg_mem (by go_simp) 87 _ rfl 1 _ _ _ hM rfl rfl _ Try.underlying87 rfl sz_Piece ?_) | (refine wpList_loadg_mem (by go_simp) 87 _ rfl 2 _ _ _ hM rfl rfl _ Try.underlying87 rfl sz_Piece ?_) | (refine wpList_loadg_mem (by go_simp) 87 _ rfl 3 _ _ _ hM rfl rfl _ Try.underlying87 rfl sz_Piece ?_))
     | ((with_reducible refine at_store_ (T := 87) ?_); first | (refine wpList_store_mem rfl 87 _ _ rfl 0 _ _ _ _ hM rfl rfl rfl rfl sz_Piece rfl ?_; clear hM; intro W hM; simp only [zE] at hM) | (refine wpList_store_mem rfl 87 _ _ rfl 1 _ _ _ _ hM rfl rfl rfl rfl sz_Piece rfl ?_; clear hM; intro W hM; simp only [zF, zE] at hM) | (refine wpList_store_mem rfl 87 _ _ rfl 2 _ _ _ _ hM rfl rfl rfl rfl sz_Piece rfl ?_; clear hM; intro W hM; simp only [zF, zE] at hM) | (refine wpList_store_mem rfl 87 _ _ rfl 3 _ _ _ _ hM rfl rfl rfl rfl sz_Piece rfl ?_; clear hM; intro W hM; simp only [zF, zE] at hM))
     | ((with_reducible refine at_load_ ?_); refine at_wanted_ (by rfl) ?_; first | (refine lM 0 hM rfl rfl rfl (by first | rfl | assumption) ?_) | (refine lM 1 hM rfl rfl rfl (by first | rfl | assumption) ?_) | (refine lM 2 hM rfl rfl rfl (by first | rfl | assumption) ?_) | (refine lM 3 hM rfl rfl rfl (by first | rfl | assumption) ?_))
     | ((with_reducible refine at_store_ ?_); first | (refine sM 0 hM rfl rfl rfl ?_; clear hM; intro W hM; simp only [zF, zE] at hM) | (refine sM 1 hM rfl rfl rfl ?_; clear hM; intro W hM; simp only [zF, zE] at hM) | (refine sM 2 hM rfl rfl rfl ?_; clear hM; intro W hM; simp only [zF, zE] at hM) | (refine sM 3 hM rfl rfl rfl ?_; clear hM; intro W hM; simp only [zF, zE] at hM)))
 have c0 := hM.cells 0 rfl
 have l0 := hM.lt 0 rfl
 have c3 := hM.cells 3 rfl
 have l3 := hM.lt 3 rfl
 simp only [oqC] at c0
 simp only [cPiece] at c3
 refine wp_region_later_tail 9 (by kernel_rfl) (by kernel_rfl) (fun hlc => ?_)
 simp only [List.take_succ_cons, List.take_zero, List.drop_succ_cons, List.drop_zero]
 repeat (go_big_quiet_step ((go_at_call 65; exact later_call (LN.out _))))
 refine wpQuiet_nil ?_
 intro wq hbq
 clear hlc c0 c3 l0 l3
 replace hM := hM.kept hbq
 clear hbq
 go_upto_region 3 with         (first
     | go_skip
     | ((with_reducible refine at_box_ ?_); refine wpList_box_mem rfl _ _ rfl _ rfl hM ?_; clear hM; intro gb W hM; first | (simp only [List.nil_append] at hM) | (simp only [List.cons_append, List.nil_append] at hM))
     | ((with_reducible refine at_load_ ?_); refine at_wanted_ (by rfl) ?_; refine lM 0 hM rfl rfl rfl (by first | rfl | assumption) ?_)
     | ((with_reducible refine at_store_ ?_); refine sM 0 hM rfl rfl rfl ?_; clear hM; intro W hM; simp only [oqA, oqB, oqC, zF, zE] at hM))
 have c0 := hM.cells 0 rfl
 have l0 := hM.lt 0 rfl
 simp only [Act.put]
 refine wp_region_later_tail 12 (by kernel_rfl) (by kernel_rfl) (fun hlc => ?_)
 simp only [List.take_succ_cons, List.take_zero, List.drop_succ_cons, List.drop_zero]
 repeat (go_big_quiet_step (fail))
 refine wpQuiet_nil ?_
 intro wq hbq
 clear hlc c0 l0
 replace hM := hM.kept hbq
 clear hbq
 go_wp2_with (first
  | go_skip
  | ((with_reducible refine at_box_ ?_); refine wpList_box_mem rfl _ _ rfl _ rfl hM ?_; clear hM; intro gb W hM; first | (simp only [List.nil_append] at hM) | (simp only [List.cons_append, List.nil_append] at hM))
  | ((with_reducible refine at_alloc_ (T := 87) ?_); refine wpList_alloc_mem rfl 87 rfl _ zv_Piece _ rfl hM ?_; clear hM; intro gb W hM; first | (simp only [List.nil_append] at hM) | (simp only [List.cons_append, List.nil_append] at hM))
  | ((with_reducible refine at_load_ (T := 87) ?_); refine at_wanted_ (by rfl) ?_; first | (refine wpList_loadg_mem (by go_simp) 87 _ rfl 0 _ _ _ hM rfl rfl _ Try.underlying87 rfl sz_Piece ?_) | (refine wpList_loadg_mem (by go_simp) 87 _ rfl 1 _ _ _ hM rfl rfl _ Try.underlying87 rfl sz_Piece ?_) | (refine wpList_loadg_mem (by go_simp) 87 _ rfl 2 _ _ _ hM rfl rfl _ Try.underlying87 rfl sz_Piece ?_) | (refine wpList_loadg_mem (by go_simp) 87 _ rfl 3 _ _ _ hM rfl rfl _ Try.underlying87 rfl sz_Piece ?_))
  | ((with_reducible refine at_store_ (T := 87) ?_); first | (refine wpList_store_mem rfl 87 _ _ rfl 0 _ _ _ _ hM rfl rfl rfl rfl sz_Piece rfl ?_; clear hM; intro W hM; simp only [zE] at hM) | (refine wpList_store_mem rfl 87 _ _ rfl 1 _ _ _ _ hM rfl rfl rfl rfl sz_Piece rfl ?_; clear hM; intro W hM; simp only [zF, zE] at hM) | (refine wpList_store_mem rfl 87 _ _ rfl 2 _ _ _ _ hM rfl rfl rfl rfl sz_Piece rfl ?_; clear hM; intro W hM; simp only [zF, zE] at hM) | (refine wpList_store_mem rfl 87 _ _ rfl 3 _ _ _ _ hM rfl rfl rfl rfl sz_Piece rfl ?_; clear hM; intro W hM; simp only [zF, zE] at hM))
  | ((with_reducible refine at_load_ ?_); refine at_wanted_ (by rfl) ?_; first | (refine lM 0 hM rfl rfl rfl (by first | rfl | assumption) ?_) | (refine lM 1 hM rfl rfl rfl (by first | rfl | assumption) ?_) | (refine lM 2 hM rfl rfl rfl (by first | rfl | assumption) ?_) | (refine lM 3 hM rfl rfl rfl (by first | rfl | assumption) ?_))
  | ((with_reducible refine at_store_ ?_); first | (refine sM 0 hM rfl rfl rfl ?_; clear hM; intro W hM; simp only [zF, zE] at hM) | (refine sM 1 hM rfl rfl rfl ?_; clear hM; intro W hM; simp only [zF, zE] at hM) | (refine sM 2 hM rfl rfl rfl ?_; clear hM; intro W hM; simp only [zF, zE] at hM) | (refine sM 3 hM rfl rfl rfl ?_; clear hM; intro W hM; simp only [zF, zE] at hM)))
 all_goals
  have hcz := hM.cells 2 rfl
  refine bodyPost_ret (v := .tuple #[.agg (cPiece p).toArray, .bool is]) (by simp [results, Try.results40, go_sem, hcz, cPiece]) rfl ?_
  refine ⟨rfl, ?_⟩
  rw [HHQ.out]
  exact hM.take_ 2
end Go.Proofs.Ytfpifahkpkjfgaa
/- The contract of outq's Ack. -/
namespace Go.Proofs.Ytfpifahkpkjfgaa
open Go.RowKit Go.Lib
set_option linter.unusedVariables false
theorem grown_none {w w' : World} (h : w.grownBy w' none) (row : Option Nat) : w.grownBy w' row := ⟨h.os, h.tape, h.output, h.size, fun k hk _ => h.block k hk (by simp)⟩
theorem elem_b1 : ∃ i z, Try.prog.info? 5 = some i ∧ i.zero = some z ∧ i.size = 1 ∧ i.bytes = 1 ∧ z.cells.size = 1 := elem_u8
set_option maxRecDepth 100000 in
set_option maxHeartbeats 1000000 in
theorem ack_no (g : Nat) (q : OQ) (v : Value) (a : Int) (w : World) (hM : OPre w w g v q v) (h : oHit q a = false) :
  Calls Try.prog 87 #[.pointer (some ⟨g, 0, none⟩), .int .i64 a] w fun e w' => e = .returned (.int .i64 0) ∧ OPre w w' g v q v := by
 have hA := hM.at_ 0 rfl
 have c0 := hA.cell
 have l0 := hA.lt
 simp only [oqC] at c0
 unfold oHit at h
 by_cases h1 : a ≤ q.una
 ·have t1 : decide (a ≤ q.una) = true := by simpa using h1
  clear h
  go_enter Try.func87, Try.ntmps87
  go_wp2_with fail
  go_ret
  exact ⟨rfl, hM⟩
 ·have t1 : decide (a ≤ q.una) = false := by simpa using h1
  have h2 : q.sent < a := by
   by_cases h2 : q.sent < a
   ·exact h2
   ·rw [decide_eq_true (show q.una < a by omega), decide_eq_true (show a ≤ q.sent by omega)] at h; cases h
  have t2 : decide (q.sent < a) = true := by simpa using h2
  clear h
  go_enter Try.func87, Try.ntmps87
  go_wp2_with fail
  go_ret
  exact ⟨rfl, hM⟩
set_option maxRecDepth 100000 in
set_option maxHeartbeats 4000000 in
theorem ack_yes (g : Nat) (q : OQ) (v : Value) (a : Int) (w : World) (hM : OPre w w g v q v) (ok : OqOk q) (hb2 : q.base ≤ 4611686018427387904) (h : oHit q a = true) :
  Calls Try.prog 87 #[.pointer (some ⟨g, 0, none⟩), .int .i64 a] w fun e w' => ∃ v', e = .returned (.int .i64 (a - q.una)) ∧ OPre w w' g v (oAck q a) v' := by
 have hn := ack_n ok a h
 have HQ : oAck q a = ⟨if 0 < oAckN q a then q.l.drop (oAckN q a).toNat else q.l, if 0 < oAckN q a then q.base + oAckN q a else q.base, a, if q.cur < a then a else q.cur, q.sent, q.cl⟩ := by unfold oAck; rw [if_pos h]
 have hh := h
 unfold oHit at hh
 simp only [Bool.and_eq_true, decide_eq_true_eq] at hh
 obtain ⟨h1, h2⟩ := hh
 have hlen := ok.len
 have hba := ok.ba
 have huc := ok.uc
 have hse : q.sent ≤ 4611686018427390000 := by have := ok.ee; have := qEnd_bd (q := q); unfold oFin at this; omega
 have hfd : oFin q = q.base + q.l.length := rfl
 have hnd : oAckN q a = (if a < oFin q then a else oFin q) - q.base := rfl
 have HF := Lib.hid (fun W (hA : OAt W g { q with una := a, cur := if q.cur < a then a else q.cur } v) (hV : OwnB W 0 v q.l) => fin_any g { q with una := a, cur := if q.cur < a then a else q.cur } v W hA hV hlen hba hb2)
 have hfe : oFin { q with una := a, cur := if q.cur < a then a else q.cur } = oFin q := rfl
 rw [hfe] at HF
 have hmn : (if oFin q < a then oFin q else a) = (if a < oFin q then a else oFin q) := by split <;> split <;> omega
 have hmx : (if q.cur < a then a else q.cur) = (if q.cur < a then a else q.cur) := rfl
 generalize hN : oAckN q a = n at *
 generalize oFin q = F at *
 generalize hMI : (if a < F then a else F) = mi at *
 generalize hCU : (if q.cur < a then a else q.cur) = cu at *
 have t1 : decide (a ≤ q.una) = false := by simp; omega
 have t2 : decide (q.sent < a) = false := by simp; omega
 have c0 := (hM.at_ 0 rfl).cell
 have l0 := (hM.at_ 0 rfl).lt
 simp only [oqC] at c0
 have HHQ := Lib.hid HQ
 have HNM := Lib.hid hnd
 have hn1 := hn.1
 have hn2 := hn.2
 have hmi : mi - q.base = n := by omega
 clear HQ ok h hfe hmx hn hnd hfd
 go_enter Try.func87, Try.ntmps87
 go_upto_region 4 with fail
 clear c0 l0
 go_upto_region 6 with         (first
     | go_skip
     | ((with_reducible refine at_box_ ?_); refine wpList_box_mem rfl _ _ rfl _ rfl hM ?_; clear hM; intro gb W hM; first | (simp only [List.nil_append] at hM) | (simp only [List.cons_append, List.nil_append] at hM))
     | ((with_reducible refine at_load_ ?_); refine at_wanted_ (by rfl) ?_; refine lM 0 hM rfl rfl rfl (by first | rfl | assumption) ?_)
     | ((with_reducible refine at_store_ ?_); refine sM 0 hM rfl rfl rfl ?_; clear hM; intro W hM; simp only [oqA, oqB, oqC, zF, zE] at hM))
 have hX : OAt W g { q with una := a, cur := cu } v := hM.at_ 0 rfl
 have hY : OwnB W 0 v q.l := hM.own 1 rfl
 have HFU := Lib.hid (fun (u : Later W) => HF.out u.now (hX.kept u.still) (hY.kept u.still))
 have c0 := hX.cell
 have l0 := hX.lt
 simp only [oqC] at c0
 clear hX hY
 simp only [Act.put]
 refine wp_region_later (by kernel_rfl) (by kernel_rfl) (fun hlc => ?_)
 repeat (go_big_quiet_step ((go_at_call 83; exact later_call (HFU.out _))))
 refine wpQuiet_nil ?_
 intro wq hbq
 clear hlc c0 l0 HFU HF
 replace hM := hM.kept hbq
 clear hbq
 by_cases h0 : 0 < n
 rotate_left
 ·have t3 : decide (0 < n) = false := by simpa using h0
  go_wp2_with (first
   | go_skip
   | ((with_reducible refine at_box_ ?_); refine wpList_box_mem rfl _ _ rfl _ rfl hM ?_; clear hM; intro gb W hM; first | (simp only [List.nil_append] at hM) | (simp only [List.cons_append, List.nil_append] at hM))
   | ((with_reducible refine at_load_ ?_); refine at_wanted_ (by rfl) ?_; refine lM 0 hM rfl rfl rfl (by first | rfl | assumption) ?_)
   | ((with_reducible refine at_store_ ?_); refine sM 0 hM rfl rfl rfl ?_; clear hM; intro W hM; simp only [zF, zE] at hM))
  go_ret
  refine ⟨rfl, v, ?_⟩
  rw [HHQ.out, if_neg (by omega), if_neg (by omega)]
  exact hM
 have t3 : decide (0 < n) = true := by simpa using h0
 obtain ⟨k, hk⟩ : ∃ k : Nat, n = (k : Int) := ⟨n.toNat, by omega⟩
 subst hk
 obtain ⟨g2, off, cap, rfl, hW⟩ := (hM.own 1 rfl).pos (by omega)
 have hcap := hW.le
 have e1 : 0 < k := by omega
 have e2 : k ≤ q.l.length := by omega
 have e3 : (k : Int) ≤ (q.l.length : Int) := by omega
 have e4 : (0 : Int) ≤ (k : Int) := by omega
 have HT : ((k : Int)).toNat = k := by omega
 have HWW := Lib.hid hW
 have HHT := Lib.hid HT
 clear hW HT
 by_cases hkl : k < q.l.length
 ·have v9 : (cap = k) = False := eq_false (by omega)
  go_upto_region 9 with         (first
     | go_skip
     | (at_builtin; obtain ⟨iG, zG, iG0, iG1, iG2, iG3, iG4⟩ := elem_b1; refine wpList_append_win rfl _ _ 104 rfl 0 5 iG zG 1 1 Try.underlying104 iG0 iG1 iG2 iG3 iG4 (by decide) (.slice none 0 0) 0 [] rfl (Win.nil _ _ _) ⟨g2, off + k, none⟩ (q.l.length - k) (cap - k) ((q.l.drop k).map b8) rfl ?len ?news ?one ?pos ?mx ?byt (Nat.zero_le _) ?_)
     | ((with_reducible refine at_box_ ?_); refine wpList_box_mem rfl _ _ rfl _ rfl hM ?_; clear hM; intro gb W hM; first | (simp only [List.nil_append] at hM) | (simp only [List.cons_append, List.nil_append] at hM))
     | ((with_reducible refine at_load_ ?_); refine at_wanted_ (by rfl) ?_; refine lM 0 hM rfl rfl rfl (by first | rfl | assumption) ?_)
     | ((with_reducible refine at_store_ ?_); refine sM 0 hM rfl rfl rfl ?_; clear hM; intro W hM; simp only [zF, zE] at hM))
  case len => rw [List.length_map, List.length_drop, Nat.mul_one]
  case news =>
   intro j u hj
   rw [Addr.add_mid]
   have hW2 := HWW.out.here (k + j) u (by rw [← hj, List.getElem?_map, List.getElem?_map, List.getElem?_drop])
   rw [Nat.add_assoc]
   exact hW2
  case one => exact b8_one _
  case pos => omega
  case mx => simp only [maxLen]; omega
  case byt => omega
  intro v1 w1 hV1 hO1 hat1
  have hV2 : OwnB w1 0 v1 (q.l.drop k) := by
   unfold OwnB
   rw [List.length_drop]
   simpa using hV1
  replace hM := hM.upd 1 rfl (grown_none hO1 _) (winR_stab _ _ _ _ _) (show (ownR 0 v1 (q.l.drop k)).P w1 from hV2) (fun j hj => ⟨by
   have hj2 : v1.ownBlock = some j := hj
   rcases hat1 with e | ⟨m, e, hm⟩
   ·rw [e] at hj2; cases hj2
   ·rw [e] at hj2; cases hj2; exact .inr hm, (hV2.lt j hj).2⟩)
  simp only [zF, zE] at hM
  obtain ⟨A1, cc, rfl⟩ := hV2.form
  clear hV1 hV2 hO1 hat1
  go_upto_region 9 with         (first
     | go_skip
     | ((with_reducible refine at_box_ ?_); refine wpList_box_mem rfl _ _ rfl _ rfl hM ?_; clear hM; intro gb W hM; first | (simp only [List.nil_append] at hM) | (simp only [List.cons_append, List.nil_append] at hM))
     | ((with_reducible refine at_load_ ?_); refine at_wanted_ (by rfl) ?_; refine lM 0 hM rfl rfl rfl (by first | rfl | assumption) ?_)
     | ((with_reducible refine at_store_ ?_); refine sM 0 hM rfl rfl rfl ?_; clear hM; intro W hM; simp only [List.set] at hM))
  go_wp2_with (first
   | go_skip
   | ((with_reducible refine at_box_ ?_); refine wpList_box_mem rfl _ _ rfl _ rfl hM ?_; clear hM; intro gb W hM; first | (simp only [List.nil_append] at hM) | (simp only [List.cons_append, List.nil_append] at hM))
   | ((with_reducible refine at_load_ ?_); refine at_wanted_ (by rfl) ?_; refine lM 0 hM rfl rfl rfl (by first | rfl | assumption) ?_)
   | ((with_reducible refine at_store_ ?_); refine sM 0 hM rfl rfl rfl ?_; clear hM; intro W hM; simp only [zF, zE] at hM))
  go_ret
  refine ⟨.slice A1 (q.l.drop k).length cc, rfl, ?_⟩
  rw [HHQ.out, if_pos h0, if_pos h0, HHT.out]
  exact hM
 ·obtain rfl : k = q.l.length := by omega
  go_upto_region 9 with         (first
     | go_skip
     | ((with_reducible refine at_box_ ?_); refine wpList_box_mem rfl _ _ rfl _ rfl hM ?_; clear hM; intro gb W hM; first | (simp only [List.nil_append] at hM) | (simp only [List.cons_append, List.nil_append] at hM))
     | ((with_reducible refine at_load_ ?_); refine at_wanted_ (by rfl) ?_; refine lM 0 hM rfl rfl rfl (by first | rfl | assumption) ?_)
     | ((with_reducible refine at_store_ ?_); refine sM 0 hM rfl rfl rfl ?_; clear hM; intro W hM; simp only [List.set] at hM))
  all_goals
   replace hM := hM.upd 1 rfl (World.grownBy.refl _ _) (winR_stab _ _ _ _ _) (show (ownR 0 (.slice none 0 0) []).P _ from Win.nil _ _ _) (fun j hj => by cases hj)
   simp only [zF, zE] at hM
   go_wp2_with (first
    | go_skip
    | ((with_reducible refine at_box_ ?_); refine wpList_box_mem rfl _ _ rfl _ rfl hM ?_; clear hM; intro gb W hM; first | (simp only [List.nil_append] at hM) | (simp only [List.cons_append, List.nil_append] at hM))
    | ((with_reducible refine at_load_ ?_); refine at_wanted_ (by rfl) ?_; refine lM 0 hM rfl rfl rfl (by first | rfl | assumption) ?_)
    | ((with_reducible refine at_store_ ?_); refine sM 0 hM rfl rfl rfl ?_; clear hM; intro W hM; simp only [zF, zE] at hM))
   go_ret
   refine ⟨.slice none 0 0, rfl, ?_⟩
   rw [HHQ.out, if_pos h0, if_pos h0, HHT.out, List.drop_length]
   exact hM
end Go.Proofs.Ytfpifahkpkjfgaa
/- Rows by a function. -/
namespace Go.Proofs.Ytfpifahkpkjfgaa
open Go.RowKit
set_option linter.unusedVariables false
/-- a row of cells by a function -/
def fnL {β : Type} (n : Nat) (f : Nat → β) : List β := (List.range n).map f
theorem fnL_len {β : Type} (n : Nat) (f : Nat → β) : (fnL n f).length = n := by simp [fnL]
theorem fnL_get {β : Type} (n : Nat) (f : Nat → β) (k : Nat) (h : k < n) : (fnL n f)[k]? = some (f k) := by simp [fnL, h]
theorem fnL_congr {β : Type} (n : Nat) (f g : Nat → β) (h : ∀ k, k < n → f k = g k) : fnL n f = fnL n g := by
 unfold fnL
 exact List.map_congr_left fun k hk => h k (List.mem_range.1 hk)
theorem fnL_set {β : Type} (n : Nat) (f : Nat → β) (i : Nat) (v : β) : (fnL n f).set i v = fnL n fun k => if k = i then v else f k := by
 apply List.ext_getElem?
 intro k
 by_cases hk : k < n
 ·rw [fnL_get _ _ _ hk, List.getElem?_set]
  by_cases e : i = k
  ·subst e; simp [fnL_len, hk]
  ·rw [if_neg e, fnL_get _ _ _ hk, if_neg (fun x => e x.symm)]
 ·rw [List.getElem?_eq_none (by simp [fnL_len]; omega), List.getElem?_eq_none (by simp [fnL_len]; omega)]
attribute [irreducible] fnL
end Go.Proofs.Ytfpifahkpkjfgaa
/- Plain words of the package inq: a ring of 2048 places. -/
namespace Go.Proofs.Ytfpifahkpkjfgaa
open Go.RowKit
set_option linter.unusedVariables false
structure IQ where
 r : Nat → Int
 h : Nat → Bool
 rd : Int
 nx : Int
 fin : Int
 over : Bool
/-- the place that slot k stands for, from nx on -/
def plc (nx : Int) (k : Nat) : Int := nx + ((k : Int) - nx) % 2048
theorem plc_lo (nx : Int) (k : Nat) : nx ≤ plc nx k := by unfold plc; omega
theorem plc_mod (nx : Int) (k : Nat) (hk : k < 2048) : plc nx k % 2048 = (k : Int) := by unfold plc; omega
theorem plc_of (nx p : Int) (k : Nat) (h : nx ≤ p) (h' : p < nx + 2048) (hk : p % 2048 = (k : Int)) : plc nx k = p := by unfold plc; omega
/-- does slot k take a byte of what comes? -/
def hitB (q : IQ) (at_ len : Int) (k : Nat) : Bool := decide (at_ ≤ plc q.nx k ∧ plc q.nx k < at_ + len ∧ plc q.nx k < q.rd + 2048 ∧ (q.fin < 0 ∨ plc q.nx k < q.fin))
def byteZ (S : ByteArray) (i : Int) : Int := ((S.data[i.toNat]?.getD 0).toNat : Int)
theorem byteZ_bd (S : ByteArray) (i : Int) : 0 ≤ byteZ S i ∧ byteZ S i ≤ 255 := by
 unfold byteZ; have := (S.data[i.toNat]?.getD 0).toNat_lt; omega
/-- up to place c -/
def hTo (q : IQ) (at_ len c : Int) (k : Nat) : Bool := q.h k || (hitB q at_ len k && decide (plc q.nx k < c))
def rTo (q : IQ) (at_ : Int) (S : ByteArray) (c : Int) (k : Nat) : Int := if !q.h k && (hitB q at_ S.size k && decide (plc q.nx k < c)) then byteZ S (plc q.nx k - at_) else q.r k
def hPut (q : IQ) (at_ len : Int) (k : Nat) : Bool := q.h k || hitB q at_ len k
def rPut (q : IQ) (at_ : Int) (S : ByteArray) (k : Nat) : Int := if !q.h k && hitB q at_ S.size k then byteZ S (plc q.nx k - at_) else q.r k
theorem hTo_start (q : IQ) (at_ len c : Int) (hc : c ≤ at_ ∨ c ≤ q.nx) (k : Nat) : hTo q at_ len c k = q.h k := by
 unfold hTo hitB
 have := plc_lo q.nx k
 rcases hc with hc | hc
 ·cases q.h k <;> simp <;> omega
 ·cases q.h k <;> simp <;> omega
theorem rTo_start (q : IQ) (at_ : Int) (S : ByteArray) (c : Int) (hc : c ≤ at_ ∨ c ≤ q.nx) (k : Nat) : rTo q at_ S c k = q.r k := by
 unfold rTo hitB
 have := plc_lo q.nx k
 rw [if_neg]
 rcases hc with hc | hc <;> simp <;> omega
theorem hTo_end (q : IQ) (at_ len c : Int) (hc : at_ + len ≤ c ∨ q.rd + 2048 ≤ c ∨ (0 ≤ q.fin ∧ q.fin ≤ c)) (k : Nat) : hTo q at_ len c k = hPut q at_ len k := by
 unfold hTo hPut hitB
 cases q.h k
 ·rw [Bool.eq_iff_iff]
  simp only [Bool.false_or, Bool.and_eq_true, decide_eq_true_eq]
  constructor
  ·exact fun h => h.1
  ·intro h; exact ⟨h, by omega⟩
 ·simp
theorem rTo_end (q : IQ) (at_ : Int) (S : ByteArray) (c : Int) (hc : at_ + S.size ≤ c ∨ q.rd + 2048 ≤ c ∨ (0 ≤ q.fin ∧ q.fin ≤ c)) (k : Nat) : rTo q at_ S c k = rPut q at_ S k := by
 have h := hTo_end q at_ S.size c hc k
 unfold hTo hPut at h
 unfold rTo rPut
 cases hq : q.h k
 ·rw [hq] at h; simp only [Bool.false_or] at h; rw [h]
 ·simp
/-- one more place -/
theorem hTo_step (q : IQ) (at_ len c : Int) (K : Nat) (hK : c % 2048 = (K : Int)) (h1 : q.nx ≤ c) (h2 : at_ ≤ c) (h3 : c < at_ + len) (h4 : c < q.rd + 2048) (h5 : q.fin < 0 ∨ c < q.fin) (h6 : q.rd ≤ q.nx) (k : Nat) (hk : k < 2048) :
  hTo q at_ len (c + 1) k = if k = K then true else hTo q at_ len c k := by
 have hp := plc_of q.nx c K h1 (by omega) hK
 by_cases e : k = K
 ·subst e
  rw [if_pos rfl]
  unfold hTo hitB
  rw [hp]
  simp; right; omega
 ·rw [if_neg e]
  unfold hTo
  have hne : plc q.nx k ≠ c := by intro x; have := plc_mod q.nx k hk; rw [x, hK] at this; omega
  congr 2
  apply decide_eq_decide.2
  omega
theorem rTo_step (q : IQ) (at_ : Int) (S : ByteArray) (c : Int) (K : Nat) (hK : c % 2048 = (K : Int)) (h1 : q.nx ≤ c) (h2 : at_ ≤ c) (h3 : c < at_ + S.size) (h4 : c < q.rd + 2048) (h5 : q.fin < 0 ∨ c < q.fin) (h6 : q.rd ≤ q.nx) (k : Nat) (hk : k < 2048) :
  rTo q at_ S (c + 1) k = if k = K ∧ q.h K = false then byteZ S (c - at_) else rTo q at_ S c k := by
 have hp := plc_of q.nx c K h1 (by omega) hK
 by_cases e : k = K
 ·subst e
  unfold rTo hitB
  rw [hp]
  cases hq : q.h k
  ·rw [if_pos (by simp; omega), if_pos ⟨rfl, rfl⟩]
  ·simp
 ·rw [if_neg (fun x => e x.1)]
  unfold rTo
  have hne : plc q.nx k ≠ c := by intro x; have := plc_mod q.nx k hk; rw [x, hK] at this; omega
  have : decide (plc q.nx k < c + 1) = decide (plc q.nx k < c) := decide_eq_decide.2 (by omega)
  rw [this]
/-- at place c nothing has been put yet but what was there -/
theorem hTo_at (q : IQ) (at_ len c : Int) (K : Nat) (hK : c % 2048 = (K : Int)) (h1 : q.nx ≤ c) (h4 : c < q.rd + 2048) (h6 : q.rd ≤ q.nx) : hTo q at_ len c K = q.h K := by
 have hp := plc_of q.nx c K h1 (by omega) hK
 unfold hTo
 rw [hp]; simp
/-- up to where all is there -/
def advZ (h : Nat → Bool) (edge : Int) : Nat → Int → Int
 | 0, p => p
 | f + 1, p => if p < edge ∧ h (p % 2048).toNat = true then advZ h edge f (p + 1) else p
def AdvIs (h : Nat → Bool) (edge p n : Int) : Prop := p ≤ n ∧ n ≤ edge ∧ (∀ x, p ≤ x → x < n → h (x % 2048).toNat = true) ∧ (n = edge ∨ h (n % 2048).toNat = false)
theorem advZ_is (h : Nat → Bool) (edge : Int) : ∀ (f : Nat) (p : Int), p ≤ edge → edge - p ≤ (f : Int) → AdvIs h edge p (advZ h edge f p)
  | 0, p, h1, h2 => by
    unfold advZ
    exact ⟨by omega, h1, fun x a b => by omega, .inl (by omega)⟩
  | f + 1, p, h1, h2 => by
    unfold advZ
    by_cases hc : p < edge ∧ h (p % 2048).toNat = true
    · rw [if_pos hc]
      obtain ⟨a, b, c, d⟩ := advZ_is h edge f (p + 1) (by omega) (by omega)
      refine ⟨by omega, b, fun x hx hx' => ?_, d⟩
      by_cases e : x = p
      · rw [e]; exact hc.2
      · exact c x (by omega) hx'
    · rw [if_neg hc]
      refine ⟨by omega, h1, fun x a b => by omega, ?_⟩
      by_cases e : p = edge
      · exact .inl e
      · right
        cases hh : h (p % 2048).toNat
        · rfl
        · exact absurd ⟨by omega, hh⟩ hc
theorem adv_one {h : Nat → Bool} {edge p n m : Int} (hn : AdvIs h edge p n) (hm : AdvIs h edge p m) : n = m := by
 obtain ⟨a1, a2, a3, a4⟩ := hn
 obtain ⟨b1, b2, b3, b4⟩ := hm
 rcases Int.lt_trichotomy n m with hlt | he | hgt
 ·rcases a4 with e | e
  ·omega
  ·have := b3 n a1 hlt; rw [e] at this; cases this
 ·exact he
 ·rcases b4 with e | e
  ·omega
  ·have := a3 m b1 hgt; rw [e] at this; cases this
/-- does a byte lie at p, or behind it? -/
def behindB (h : Nat → Bool) (p edge : Int) : Bool := (List.range (edge - p).toNat).any fun j => h ((p + j) % 2048).toNat
theorem behind_iff (h : Nat → Bool) (p edge : Int) : behindB h p edge = true ↔ ∃ x, p ≤ x ∧ x < edge ∧ h (x % 2048).toNat = true := by
 unfold behindB
 rw [List.any_eq_true]
 constructor
 ·rintro ⟨j, hj, hh⟩
  rw [List.mem_range] at hj
  exact ⟨p + j, by omega, by omega, hh⟩
 ·rintro ⟨x, h1, h2, h3⟩
  refine ⟨(x - p).toNat, List.mem_range.2 (by omega), ?_⟩
  rw [show p + ((x - p).toNat : Int) = x by omega]; exact h3
/-- what Put does, where it does something -/
def finPut (q : IQ) (at_ len : Int) (fin : Bool) : Int :=
 if (fin = true ∧ q.fin < 0 ∧ q.nx ≤ at_ + len ∧ at_ + len ≤ q.rd + 2048) ∧ behindB (hPut q at_ len) (at_ + len) (q.rd + 2048) = false then at_ + len else q.fin
def nxPut (q : IQ) (at_ len : Int) : Int := advZ (hPut q at_ len) (q.rd + 2048) 2048 q.nx
def hAfter (q : IQ) (at_ len n : Int) (k : Nat) : Bool := hPut q at_ len k && decide (n ≤ plc q.nx k)
def putQ (q : IQ) (at_ : Int) (S : ByteArray) (fin : Bool) : IQ :=
 if at_ < -1152921504606846976 ∨ 1152921504606846976 < at_ ∨ q.over = true then q
 else if nxPut q at_ S.size = finPut q at_ S.size fin then
  { r := rPut q at_ S, h := hAfter q at_ S.size (nxPut q at_ S.size), rd := q.rd, nx := nxPut q at_ S.size + 1, fin := finPut q at_ S.size fin, over := true }
 else { r := rPut q at_ S, h := hAfter q at_ S.size (nxPut q at_ S.size), rd := q.rd, nx := nxPut q at_ S.size, fin := finPut q at_ S.size fin, over := false }
end Go.Proofs.Ytfpifahkpkjfgaa
