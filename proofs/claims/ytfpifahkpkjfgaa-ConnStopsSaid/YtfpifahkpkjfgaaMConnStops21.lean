/- What ConnStops needs, a part: CnJ, CnK. -/
import Derived.Deep.CutBlock
import Derived.Test.YtfpifahkpkjfgaaMConnStops20
namespace Go.Proofs.Ytfpifahkpkjfgaa
open Go.RowKit Go.Lib
set_option linter.unusedVariables false
set_option linter.unusedSimpArgs false
set_option maxRecDepth 100000 in
set_option maxHeartbeats 8000000 in
theorem tcLength_any (g : KSeg) (w : World) (hb : g.b.size ≤ 140737488351232) :
  Calls Try.prog 77 #[.agg (cSeg g).toArray] w fun e w' => e = .returned (.int .i64 (sgLen g)) ∧ Below w.heap.size w w' := by
 obtain ⟨fa, fp, ta, tp, seq, ack, syn, has, fin, rst, win, mss, b⟩ := g
 simp only at hb
 have hM := Mem.nil w
 cases syn
 all_goals
  cases fin
  all_goals
   go_enter Try.func77, Try.ntmps77
   go_wp2_with (first | go_skip | ((with_reducible refine at_box_ ?_); refine wpList_box_mem rfl _ _ rfl _ rfl hM ?_; clear hM; intro gb W hM; first | (simp only [List.nil_append] at hM) | (simp only [List.cons_append, List.nil_append] at hM)) | ((with_reducible refine at_load_ ?_); refine at_wanted_ (by rfl) ?_; first | (refine lM 0 hM rfl rfl rfl rfl ?_)))
   go_ret
   refine ⟨?_, hM.b⟩
   unfold sgLen
   simp
theorem cSample_any (g : Nat) (t : KTm) (r : Int) (w : World) (hT : TimerAt w g t.k t.m t.s t.d) (ho : TimerOk t.m t.s t.d) :
  Calls Try.prog 88 #[.pointer (some ⟨g, 0, none⟩), .int .i64 r] w fun e w' => (∃ x, e = .returned (.int .i64 x)) ∧ TimerAt w' g (cSampled t r).k (cSampled t r).m (cSampled t r).s (cSampled t r).d ∧ w.grownBy w' (some g) := by
 obtain ⟨k, m, s, d⟩ := t
 simp only at hT ho
 by_cases h : r < 0 ∨ 1099511627776 < r
 ·have e : cSampled ⟨k, m, s, d⟩ r = ⟨k, m, s, d⟩ := if_pos h
  rw [e]
  exact (Sample_no g r w h).mono fun e w' ⟨he, hw⟩ => ⟨⟨_, he⟩, hw ▸ hT, hw ▸ only_refl _ _⟩
 ·cases k
  ·have e : cSampled ⟨false, m, s, d⟩ r = ⟨true, r * 8, r * 2, 0⟩ := (if_neg h).trans (if_neg (show ¬ (false = true) by decide))
   rw [e]
   exact (Sample_first g m s d r w hT (by omega) (by omega)).mono fun e w' ⟨he, hT', hO⟩ => ⟨⟨_, he⟩, hT', hO⟩
  ·have e : cSampled ⟨true, m, s, d⟩ r = ⟨true, m + (r - m / 8), s + (absZ (r - m / 8) - s / 4), 0⟩ := (if_neg h).trans (if_pos rfl)
   rw [e]
   exact (Sample_next g m s d r w hT ho (by omega) (by omega)).mono fun e w' ⟨he, hT', hO⟩ => ⟨⟨_, he⟩, hT', hO⟩
theorem cAcked_any (g : Nat) (d : KWd) (n : Int) (w : World) (hT : WindowAt w g d.m d.s d.l) (ho : WindowOk d.m d.s d.l) (hn : -9223372036854775808 ≤ n) (hn' : n ≤ 9223372036854775807) :
  Calls Try.prog 89 #[.pointer (some ⟨g, 0, none⟩), .int .i64 n] w fun e w' => e = .returned (.tuple #[]) ∧ WindowAt w' g (cAckW d n).m (cAckW d n).s (cAckW d n).l ∧ w.grownBy w' (some g) := by
 by_cases h : n < 1
 ·have e : cAckW d n = d := if_pos h
  rw [e]
  exact (Acked_none g n w h hn).mono fun e w' ⟨he, hw⟩ => ⟨he, hw ▸ hT, hw ▸ only_refl _ _⟩
 ·have e : cAckW d n = ⟨d.m, ackZ d.m d.s d.l n, d.l⟩ := if_neg h
  rw [e]
  by_cases hs : d.s < d.l
  ·exact Acked_fast g d.m d.s d.l n w hT ho (by omega) hn' hs
  ·exact Acked_slow g d.m d.s d.l n w hT ho (by omega) hn' (by omega)
theorem oAck_all (g : Nat) (q : OQ) (v : Value) (a : Int) (w : World) (hM : OPre w w g v q v) (ok : OqOk q) (hb2 : q.base ≤ 4611686018427387904) :
    Calls Try.prog 87 #[.pointer (some ⟨g, 0, none⟩), .int .i64 a] w fun e w' => ∃ v', e = .returned (.int .i64 (cMany q a)) ∧ OPre w w' g v (oAck q a) v' := by
  cases h : oHit q a with
  | true =>
    have e : cMany q a = a - q.una := if_pos h
    rw [e]
    exact ack_yes g q v a w hM ok hb2 h
  | false =>
    have e : cMany q a = 0 := if_neg (by rw [h]; decide)
    have e2 : oAck q a = q := if_neg (by rw [h]; decide)
    rw [e, e2]
    exact (ack_no g q v a w hM h).mono fun e w' ⟨he, h2⟩ => ⟨v, he, h2⟩
set_option maxRecDepth 100000 in
set_option maxHeartbeats 8000000 in
theorem ackd_any {E : Nat → Prop} {w0 : World} (gc gi gw : Nat) (q : IQ) (d : KWd) (c : KCn) (k : KPt) (m : List Res) (w : World) (hM0 : MemX E w0 w (oqA k.go c.o k.vo :: oqB c.o k.vo :: cnA gc c k :: tmR k.gt c.tm :: rsR k.vr c.rs :: iqR gi q :: wdR gw d :: m)) (a : Int)
    (ok : OqOk c.o) (hb : c.o.base ≤ 4611686018427387904) (ht : TimerOk c.tm.m c.tm.s c.tm.d) (hd : WindowOk d.m d.s d.l) (hw : k.vw = .pointer (some ⟨gw, 0, none⟩)) (ha : 0 ≤ a ∧ a ≤ 4611686018427387904) (hn : 0 ≤ c.now ∧ c.now ≤ 1099511627776) (hwh : 0 ≤ c.wh ∧ c.wh ≤ 1099511627776) (hme : -9223372036854775808 ≤ c.meas ∧ c.meas ≤ 9223372036854775807) :
    Calls Try.prog 74 #[.pointer (some ⟨gc, 0, none⟩), .int .i64 a] w fun e w' => ∃ v', e = .returned (.tuple #[]) ∧ MemX E w0 w' (oqA k.go (cAckd c a).o v' :: oqB (cAckd c a).o v' :: cnA gc (cAckd c a) k :: tmR k.gt (cAckd c a).tm :: rsR k.vr c.rs :: iqR gi q :: wdR gw (cAckW d (cMany c.o a)) :: m) := by
  have hM := hM0
  clear hM0
  obtain ⟨ha1, ha2⟩ := ha
  obtain ⟨hn1, hn2⟩ := hn
  obtain ⟨hwh1, hwh2⟩ := hwh
  have hqb : -9223372036854775808 ≤ cMany c.o a ∧ cMany c.o a ≤ 9223372036854775807 := by
    have := ok.uc; have := ok.cs; have := ok.se; have := ok.ee; have := ok.len; have := qEnd_bd (q := c.o)
    unfold oFin at this
    unfold cMany
    split <;> omega
  have HAK := Lib.hid (fun (W : World) h => oAck_all k.go c.o k.vo a W h ok hb)
  have HSA := Lib.hid (fun (W : World) h => cSample_any k.gt c.tm (c.now - c.wh) W h ht)
  have HAC := Lib.hid (fun (W : World) h => cAcked_any gw d (cMany c.o a) W h hd hqb.1 hqb.2)
  have HWW := Lib.hid hw
  obtain ⟨n, hnn⟩ : ∃ z, z = cMany c.o a := ⟨_, rfl⟩
  obtain ⟨o1, ho1⟩ : ∃ z, z = oAck c.o a := ⟨_, rfl⟩
  rw [← hnn, ← ho1] at HAK
  rw [← hnn] at HAC hqb ⊢
  have e0 : (cAckd c a).o = o1 := by rw [ho1]; rfl
  rw [e0]
  have HO1 := Lib.hid ho1
  obtain ⟨hqb1, hqb2⟩ := hqb
  clear ok hb ht hd hw hnn ho1 e0
  go_enter Try.func74, Try.ntmps74
  go_upto_region 1 with (first | go_skip | ((with_reducible refine at_load_ ?_); refine at_wanted_ (by rfl) ?_; first | (refine lM 2 hM rfl rfl rfl rfl ?_)) | (go_at_call 87; refine (HAK.out _ (cq_hand hM)).mono ?_; rintro e W ⟨v1, rfl, hN⟩; replace hM := cq_put hM hN; clear hN; dsimp only))
  obtain ⟨b, hb⟩ : ∃ z, z = decide (0 < c.meas ∧ c.meas ≤ a) := ⟨_, rfl⟩
  go_cut [23] (fun v W => v = .bool b ∧ MemX E w0 W (oqA k.go o1 v1 :: oqB o1 v1 :: cnA gc c k :: tmR k.gt c.tm :: rsR k.vr c.rs :: iqR gi q :: wdR gw d :: m))
  case first =>
    by_cases h1 : 0 < c.meas
    · have t1 : decide (0 < c.meas) = true := decide_eq_true h1
      by_cases h2 : c.meas ≤ a
      · have t2 : decide (c.meas ≤ a) = true := decide_eq_true h2
        obtain rfl : b = true := by rw [hb]; exact decide_eq_true ⟨h1, h2⟩
        clear hb h1 h2
        go_wp2_with (first | go_skip | ((with_reducible refine at_load_ ?_); refine at_wanted_ (by rfl) ?_; first | (refine lM 2 hM rfl rfl rfl rfl ?_)))
        go_meet
        case rel => exact ⟨rfl, hM⟩
      · have t2 : decide (c.meas ≤ a) = false := decide_eq_false h2
        obtain rfl : b = false := by rw [hb]; exact decide_eq_false (fun h => h2 h.2)
        clear hb h1 h2
        go_wp2_with (first | go_skip | ((with_reducible refine at_load_ ?_); refine at_wanted_ (by rfl) ?_; first | (refine lM 2 hM rfl rfl rfl rfl ?_)))
        go_meet
        case rel => exact ⟨rfl, hM⟩
    · have t1 : decide (0 < c.meas) = false := decide_eq_false h1
      obtain rfl : b = false := by rw [hb]; exact decide_eq_false (fun h => h1 h.1)
      clear hb h1
      go_wp2_with (first | go_skip | ((with_reducible refine at_load_ ?_); refine at_wanted_ (by rfl) ?_; first | (refine lM 2 hM rfl rfl rfl rfl ?_)))
      go_meet
      case rel => exact ⟨rfl, hM⟩
  case rest =>
    clear hM
    obtain ⟨rfl, hM⟩ := hcut
    obtain ⟨c1, hc1⟩ : ∃ z : KCn, z = { c with meas := if b = true then 0 else c.meas } := ⟨_, rfl⟩
    obtain ⟨t1, ht1⟩ : ∃ z, z = if b = true then cSampled c.tm (c.now - c.wh) else c.tm := ⟨_, rfl⟩
    have HC1 := Lib.hid hc1
    have HT1 := Lib.hid ht1
    have HB := Lib.hid hb
    clear hc1 ht1 hb
    apply apK
    · assumption
    go_cut [4] (fun v W => v = .int .i64 n ∧ MemX E w0 W (oqA k.go o1 v1 :: oqB o1 v1 :: cnA gc c1 k :: tmR k.gt t1 :: rsR k.vr c.rs :: iqR gi q :: wdR gw d :: m))
    case first =>
      cases b with
      | false =>
        have e1 : c1 = c := HC1.out
        have e2 : t1 = c.tm := HT1.out
        have E1 := Lib.hid e1
        have E2 := Lib.hid e2
        clear e1 e2 HC1 HT1
        go_wp2_with fail
        go_meet
        case rel => exact ⟨rfl, by rw [E1.out, E2.out]; exact hM⟩
      | true =>
        go_upto_region 2 with (fail)
        refine wp_region_M [2] [] hM (by kernel_rfl) ?_
        clear hM
        intro wo hM
        refine tW 0 rfl ?_
        simp only [zz]
        refine tW 1 rfl ?_
        simp only [zz]
        refine tW 2 rfl ?_
        simp only [zz]
        refine tL 3 (v := ?_) rfl ⟨fun r hr => hM.get 2 hr, trivial⟩ (Or.inl ⟨by rfl, ?hy⟩) ?_
        case hy => (rintro W ⟨i2, -⟩; have c2 := (show At W _ _ _ from i2 _ rfl).cell; (try simp only [cnC] at c2); go_simp; (try with_reducible rfl))
        simp only [zz]
        refine tW 4 rfl ?_
        simp only [zz]
        refine tW 5 rfl ?_
        simp only [zz]
        refine tW 6 rfl ?_
        simp only [zz]
        refine tL 7 (v := ?_) rfl ⟨fun r hr => hM.get 2 hr, trivial⟩ (Or.inl ⟨by rfl, ?hy⟩) ?_
        case hy => (rintro W ⟨i2, -⟩; have c2 := (show At W _ _ _ from i2 _ rfl).cell; (try simp only [cnC] at c2); go_simp; (try with_reducible rfl))
        simp only [zz]
        refine tW 8 rfl ?_
        simp only [zz]
        refine tW 9 rfl ?_
        simp only [zz]
        refine tW 10 rfl ?_
        simp only [zz]
        refine tL 11 (v := ?_) rfl ⟨fun r hr => hM.get 2 hr, trivial⟩ (Or.inl ⟨by rfl, ?hy⟩) ?_
        case hy => (rintro W ⟨i2, -⟩; have c2 := (show At W _ _ _ from i2 _ rfl).cell; (try simp only [cnC] at c2); go_simp; (try with_reducible rfl))
        simp only [zz]
        refine tW 12 rfl ?_
        simp only [zz]
        refine wpI_one (i := 13) rfl (by kernel_rfl) ?_
        (try simp only [zz])
        go_wp2_with (first
            | go_skip
            | (go_at_call 88; refine (HSA.out _ (hM.at_ 3 rfl)).mono ?_; rintro e W ⟨⟨x, rfl⟩, hT, hO⟩; replace hM := hM.atPut 3 rfl hO hT; clear hT hO; simp only [zF, zE] at hM; dsimp only))
        refine contI_normal ⟨fun r hr => hM.get 2 hr, trivial⟩ ?_
        (try simp only [zz])
        refine wpI_done (by kernel_rfl) ?_ _
        (try simp only [zz])
        go_wp2_with (first | go_skip | ((with_reducible refine at_store_ ?_); first | (refine sM 2 hM rfl rfl rfl ?_; clear hM; intro W hM; simp only [zF, zE, cnA, cn4, cn5, cn7, cn9, cn11, cn12, cn13, cn14, cn16, cn17, cn18, cn19, cn20, cn21, cn22, cn23, cn24, cn25, cn26, cn27, cn28] at hM)))
        go_meet
        case rel => exact ⟨rfl, by rw [HC1.out, HT1.out]; exact hM⟩
    case rest =>
      clear hM HSA HAK
      obtain ⟨rfl, hM⟩ := hcut
      have c16 : wc.cell? ⟨gc, 16, none⟩ = some (.pointer (some ⟨gw, 0, none⟩)) := by rw [← HWW.out]; exact hM.cells 2 rfl 16
      go_upto_region 5 with (first
        | go_skip
        | (go_at_call 89; refine (HAC.out _ (hM.at_ 6 rfl)).mono ?_; rintro e W ⟨rfl, hT, hO⟩; replace hM := hM.atPut 6 rfl hO hT; clear hT hO c16; simp only [zF, zE] at hM; dsimp only))
      go_wp2_with (first | go_skip | ((with_reducible refine at_store_ ?_); first | (refine sM 2 hM rfl rfl rfl ?_; clear hM; intro W hM; simp only [zF, zE, cnA, cn4, cn5, cn7, cn9, cn11, cn12, cn13, cn14, cn16, cn17, cn18, cn19, cn20, cn21, cn22, cn23, cn24, cn25, cn26, cn27, cn28] at hM)))
      go_end0
      refine ⟨rfl, v1, ?_⟩
      have e1 : (cAckd c a).tm = t1 := by
        rw [HT1.out]
        by_cases h : 0 < c.meas ∧ c.meas ≤ a
        · rw [show b = true from by rw [HB.out]; exact decide_eq_true h]; exact if_pos h
        · rw [show b = false from by rw [HB.out]; exact decide_eq_false h]; exact if_neg h
      have e2 : cnC (cAckd c a) k = cnC { c1 with gone := 0, same := 0, clock := -1 } k := by
        have e3 : (cAckd c a).meas = c1.meas := by
          rw [HC1.out]
          by_cases h : 0 < c.meas ∧ c.meas ≤ a
          · rw [show b = true from by rw [HB.out]; exact decide_eq_true h]; exact if_pos h
          · rw [show b = false from by rw [HB.out]; exact decide_eq_false h]; exact if_neg h
        have e4 : cnC (cAckd c a) k = cnC { c with meas := (cAckd c a).meas, gone := 0, same := 0, clock := -1 } k := rfl
        rw [e4, e3, HC1.out]
      rw [e1]
      unfold cnA
      rw [e2]
      exact hM
end Go.Proofs.Ytfpifahkpkjfgaa
