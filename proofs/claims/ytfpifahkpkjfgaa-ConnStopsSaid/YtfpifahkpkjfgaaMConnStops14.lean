/- What ConnStops needs, a part: CnD, CnE. -/
import Derived.Deep.CutBlock
import Derived.Test.YtfpifahkpkjfgaaMConnStops13
namespace Go.Proofs.Ytfpifahkpkjfgaa
open Go.RowKit Go.Lib
set_option linter.unusedVariables false
set_option linter.unusedSimpArgs false
set_option maxRecDepth 100000 in
set_option maxHeartbeats 8000000 in
theorem late_none {E : Nat → Prop} {w0 : World} (gc : Nat) (c : KCn) (k : KPt) (m : List Res) (w : World) (hM0 : MemX E w0 w (oqA k.go c.o k.vo :: oqB c.o k.vo :: cnA gc c k :: tmR k.gt c.tm :: m)) (ok : OqOk c.o) (hb : c.o.base ≤ 4611686018427387904) (ht : TimerOk c.tm.m c.tm.s c.tm.d) (hg : 0 ≤ c.gone) (hg2 : c.gone ≤ 8) (hh : c.h = none) (hw : k.vw = .pointer none) (hcu : c.o.cur ≤ 9223372036854775807) :
  Calls Try.prog 46 #[.pointer (some ⟨gc, 0, none⟩)] w fun e w' => e = .returned (.tuple #[]) ∧ MemX E w0 w' (oqA k.go (cLate c).o k.vo :: oqB (cLate c).o k.vo :: cnA gc (cLate c) k :: tmR k.gt (cLate c).tm :: m) := by
 have hM := hM0
 clear hM0
 have hu := ok.uc
 have hcs := ok.cs
 by_cases h8 : c.gone = 8
 ·have HK := Lib.hid (show cLate c = cClosed c 13 from by unfold cLate; rw [if_pos h8])
  have t8 : (c.gone == 8) = true := by simpa using h8
  have HC := Lib.hid (fun (W : World) h => closed_any (E := E) (w0 := w0) gc c k 13 (tmR k.gt c.tm :: m) W h)
  clear h8
  go_enter Try.func46, Try.ntmps46
  go_wp2_with (first | go_skip | (go_at_call 44; refine (HC.out _ hM).mono ?_; clear hM; rintro e W ⟨rfl, hM⟩; dsimp only) | ((with_reducible refine at_load_ ?_); refine at_wanted_ (by rfl) ?_; first | (refine lM 2 hM rfl rfl rfl rfl ?_)))
  (refine bodyPost_ret (results_none rfl _ _ _) rfl ?_)
  rw [HK.out]
  exact ⟨rfl, hM⟩
 ·have t8 : (c.gone == 8) = false := by simpa using h8
  have HLT := Lib.hid (fun (W : World) h => Late_any k.gt c.tm.k c.tm.m c.tm.s c.tm.d W h ht)
  have HHH := Lib.hid hh
  have HWW := Lib.hid hw
  obtain ⟨c1, hc1⟩ : ∃ z : KCn, z = { c with gone := c.gone + 1, tm := { c.tm with d := if c.tm.d < 6 then c.tm.d + 1 else 6 }, clock := c.now } := ⟨_, rfl⟩
  have HC1 := Lib.hid hc1
  have ho1 : c1.o = c.o := by rw [hc1]
  have hh1 : c1.h = c.h := by rw [hc1]
  have HK0 := Lib.hid (fun (hf : c1.o.cur - c1.o.una = 0) => (by rw [ho1] at hf; unfold cLate; rw [if_neg h8, if_pos hf, hc1] : cLate c = { c1 with probe := true }))
  have HK1 := Lib.hid (fun (hf : c1.o.cur - c1.o.una ≠ 0) => (by rw [ho1] at hf ⊢; unfold cLate; rw [if_neg h8, if_neg hf, hc1, hh]; rfl : cLate c = { c1 with o := { c1.o with cur := c1.o.una }, meas := 0, h := none }))
  clear h8 hc1 hh hw
  go_enter Try.func46, Try.ntmps46
  go_upto_region 5 with (first
   | go_skip
   | (go_at_call 69; refine (HLT.out _ (hM.at_ 3 rfl)).mono ?_; rintro e W ⟨rfl, hT, hO⟩; replace hM := hM.atPut 3 rfl hO hT; clear hT hO; simp only [zF, zE] at hM; dsimp only)
   | ((with_reducible refine at_load_ ?_); refine at_wanted_ (by rfl) ?_; first | (refine lM 2 hM rfl rfl rfl rfl ?_))
   | ((with_reducible refine at_store_ ?_); first | (refine sM 2 hM rfl rfl rfl ?_; clear hM; intro W hM; simp only [zF, zE, cnA, cn4, cn5, cn7, cn9, cn11, cn12, cn13, cn14, cn16, cn17, cn18, cn19, cn20, cn21, cn22, cn23, cn24, cn25, cn26, cn27, cn28] at hM)))
  have hM2 : MemX E w0 W (oqA k.go c1.o k.vo :: oqB c1.o k.vo :: cnA gc c1 k :: tmR k.gt c1.tm :: m) := by rw [HC1.out]; exact hM
  clear hM
  have hM := hM2
  clear hM2
  rw [← ho1] at hu hcs hcu
  have HU := Lib.hid (fun (u : Later W) => Una_any k.go c1.o k.vo u.now ((hM.at_ 0 rfl).kept u.still))
  have HC := Lib.hid (fun (u : Later W) => Cur_any k.go c1.o k.vo u.now ((hM.at_ 0 rfl).kept u.still))
  have hlt := hM.lt 2 rfl
  have c6 : W.cell? ⟨gc, 6, none⟩ = some (.pointer (some ⟨k.go, 0, none⟩)) := hM.cells 2 rfl 6
  clear HC1 HLT t8 ho1
  (try simp only [Act.put])
  refine wp_region_later (by kernel_rfl) (by kernel_rfl) (fun hlc => ?_)
  repeat (go_big_quiet_step ((first | (go_at_call 63; exact later_same (HU.out _)) | (go_at_call 41; exact later_same (HC.out _)))))
  refine wpQuiet_nil ?_
  intro wq hbq
  clear hlc
  replace hM := hM.kept hbq
  clear hbq c6 hlt HU HC
  have c6 : wq.cell? ⟨gc, 6, none⟩ = some (.pointer (some ⟨k.go, 0, none⟩)) := hM.cells 2 rfl 6
  have cw : wq.cell? ⟨gc, 16, none⟩ = some (.pointer none) := by rw [← HWW.out]; exact hM.cells 2 rfl 16
  by_cases hf : c1.o.cur - c1.o.una = 0
  ·have HK := Lib.hid (HK0.out hf)
   have tf : (c1.o.cur - c1.o.una == 0) = true := by simpa using hf
   clear hf HK0 HK1
   go_wp2_with (first | go_skip | ((with_reducible refine at_store_ ?_); first | (refine sM 2 hM rfl rfl rfl ?_; clear hM; intro W hM; simp only [zF, zE, cnA, cn4, cn5, cn7, cn9, cn11, cn12, cn13, cn14, cn16, cn17, cn18, cn19, cn20, cn21, cn22, cn23, cn24, cn25, cn26, cn27, cn28] at hM)))
   (refine bodyPost_ret (results_none rfl _ _ _) rfl ?_)
   rw [HK.out]
   exact ⟨rfl, hM⟩
  ·have HK := Lib.hid (HK1.out hf)
   have tf : (c1.o.cur - c1.o.una == 0) = false := by simpa using hf
   clear hf HK0 HK1
   go_upto_if 49 with (fail)
   clear c6 cw
   go_wp2_with (first
    | go_skip
    | (go_at_call 71; refine (Back_any k.go c1.o k.vo _ (cq_hand hM)).mono ?_; rintro e W ⟨rfl, hN⟩; replace hM := cq_put hM hN; clear hN; dsimp only)
    | ((with_reducible refine at_load_ ?_); refine at_wanted_ (by rfl) ?_; first | (refine lM 2 hM rfl rfl rfl rfl ?_))
    | ((with_reducible refine at_store_ ?_); first | (refine sM 2 hM rfl rfl rfl ?_; clear hM; intro W hM; simp only [zF, zE, cnA, cn4, cn5, cn7, cn9, cn11, cn12, cn13, cn14, cn16, cn17, cn18, cn19, cn20, cn21, cn22, cn23, cn24, cn25, cn26, cn27, cn28] at hM)))
   go_end0
   rw [HK.out]
   exact ⟨rfl, hM⟩
set_option maxRecDepth 100000 in
set_option maxHeartbeats 8000000 in
theorem late_some {E : Nat → Prop} {w0 : World} (gc : Nat) (c : KCn) (k : KPt) (gi gw : Nat) (q : IQ) (d : KWd) (m : List Res) (w : World) (hM0 : MemX E w0 w (oqA k.go c.o k.vo :: oqB c.o k.vo :: cnA gc c k :: tmR k.gt c.tm :: rsR k.vr c.rs :: iqR gi q :: wdR gw d :: m)) (ok : OqOk c.o) (hb : c.o.base ≤ 4611686018427387904) (ht : TimerOk c.tm.m c.tm.s c.tm.d) (hg : 0 ≤ c.gone) (hg2 : c.gone ≤ 8) (hh : c.h = some (q, d)) (hw : k.vw = .pointer (some ⟨gw, 0, none⟩)) (hd : WindowOk d.m d.s d.l) (hcu : c.o.cur ≤ 9223372036854775807) :
  Calls Try.prog 46 #[.pointer (some ⟨gc, 0, none⟩)] w fun e w' => e = .returned (.tuple #[]) ∧ ∃ d', (cLate c).h = some (q, d') ∧ MemX E w0 w' (oqA k.go (cLate c).o k.vo :: oqB (cLate c).o k.vo :: cnA gc (cLate c) k :: tmR k.gt (cLate c).tm :: rsR k.vr (cLate c).rs :: iqR gi q :: wdR gw d' :: m) := by
 have hM := hM0
 clear hM0
 have hu := ok.uc
 have hcs := ok.cs
 by_cases h8 : c.gone = 8
 ·have HK := Lib.hid (show cLate c = cClosed c 13 from by unfold cLate; rw [if_pos h8])
  have t8 : (c.gone == 8) = true := by simpa using h8
  have HC := Lib.hid (fun (W : World) h => closed_any (E := E) (w0 := w0) gc c k 13 (tmR k.gt c.tm :: rsR k.vr c.rs :: iqR gi q :: wdR gw d :: m) W h)
  clear h8
  go_enter Try.func46, Try.ntmps46
  go_wp2_with (first | go_skip | (go_at_call 44; refine (HC.out _ hM).mono ?_; clear hM; rintro e W ⟨rfl, hM⟩; dsimp only) | ((with_reducible refine at_load_ ?_); refine at_wanted_ (by rfl) ?_; first | (refine lM 2 hM rfl rfl rfl rfl ?_)))
  (refine bodyPost_ret (results_none rfl _ _ _) rfl ?_)
  rw [HK.out]
  exact ⟨rfl, ⟨d, by show c.h = _; exact hh, hM⟩⟩
 ·have t8 : (c.gone == 8) = false := by simpa using h8
  have HLT := Lib.hid (fun (W : World) h => Late_any k.gt c.tm.k c.tm.m c.tm.s c.tm.d W h ht)
  have HHH := Lib.hid hh
  have HWW := Lib.hid hw
  obtain ⟨c1, hc1⟩ : ∃ z : KCn, z = { c with gone := c.gone + 1, tm := { c.tm with d := if c.tm.d < 6 then c.tm.d + 1 else 6 }, clock := c.now } := ⟨_, rfl⟩
  have HC1 := Lib.hid hc1
  have ho1 : c1.o = c.o := by rw [hc1]
  have hh1 : c1.h = c.h := by rw [hc1]
  have HK0 := Lib.hid (fun (hf : c1.o.cur - c1.o.una = 0) => (by rw [ho1] at hf; unfold cLate; rw [if_neg h8, if_pos hf, hc1] : cLate c = { c1 with probe := true }))
  have HK1 := Lib.hid (fun (hf : c1.o.cur - c1.o.una ≠ 0) => (by rw [ho1] at hf ⊢; unfold cLate; rw [if_neg h8, if_neg hf, hc1, hh]; rfl : cLate c = { c1 with o := { c1.o with cur := c1.o.una }, meas := 0, h := some (q, ⟨d.m, d.m, halfZ d.m (c1.o.cur - c1.o.una)⟩) }))
  clear h8 hc1 hh hw
  go_enter Try.func46, Try.ntmps46
  go_upto_region 5 with (first
   | go_skip
   | (go_at_call 69; refine (HLT.out _ (hM.at_ 3 rfl)).mono ?_; rintro e W ⟨rfl, hT, hO⟩; replace hM := hM.atPut 3 rfl hO hT; clear hT hO; simp only [zF, zE] at hM; dsimp only)
   | ((with_reducible refine at_load_ ?_); refine at_wanted_ (by rfl) ?_; first | (refine lM 2 hM rfl rfl rfl rfl ?_))
   | ((with_reducible refine at_store_ ?_); first | (refine sM 2 hM rfl rfl rfl ?_; clear hM; intro W hM; simp only [zF, zE, cnA, cn4, cn5, cn7, cn9, cn11, cn12, cn13, cn14, cn16, cn17, cn18, cn19, cn20, cn21, cn22, cn23, cn24, cn25, cn26, cn27, cn28] at hM)))
  have hM2 : MemX E w0 W (oqA k.go c1.o k.vo :: oqB c1.o k.vo :: cnA gc c1 k :: tmR k.gt c1.tm :: rsR k.vr c1.rs :: iqR gi q :: wdR gw d :: m) := by rw [HC1.out]; exact hM
  clear hM
  have hM := hM2
  clear hM2
  rw [← ho1] at hu hcs hcu
  have HU := Lib.hid (fun (u : Later W) => Una_any k.go c1.o k.vo u.now ((hM.at_ 0 rfl).kept u.still))
  have HC := Lib.hid (fun (u : Later W) => Cur_any k.go c1.o k.vo u.now ((hM.at_ 0 rfl).kept u.still))
  have hlt := hM.lt 2 rfl
  have c6 : W.cell? ⟨gc, 6, none⟩ = some (.pointer (some ⟨k.go, 0, none⟩)) := hM.cells 2 rfl 6
  clear HC1 HLT t8 ho1
  (try simp only [Act.put])
  refine wp_region_later (by kernel_rfl) (by kernel_rfl) (fun hlc => ?_)
  repeat (go_big_quiet_step ((first | (go_at_call 63; exact later_same (HU.out _)) | (go_at_call 41; exact later_same (HC.out _)))))
  refine wpQuiet_nil ?_
  intro wq hbq
  clear hlc
  replace hM := hM.kept hbq
  clear hbq c6 hlt HU HC
  have c6 : wq.cell? ⟨gc, 6, none⟩ = some (.pointer (some ⟨k.go, 0, none⟩)) := hM.cells 2 rfl 6
  have cw : wq.cell? ⟨gc, 16, none⟩ = some (.pointer (some ⟨gw, 0, none⟩)) := by rw [← HWW.out]; exact hM.cells 2 rfl 16
  by_cases hf : c1.o.cur - c1.o.una = 0
  ·have HK := Lib.hid (HK0.out hf)
   have tf : (c1.o.cur - c1.o.una == 0) = true := by simpa using hf
   clear hf HK0 HK1
   go_wp2_with (first | go_skip | ((with_reducible refine at_store_ ?_); first | (refine sM 2 hM rfl rfl rfl ?_; clear hM; intro W hM; simp only [zF, zE, cnA, cn4, cn5, cn7, cn9, cn11, cn12, cn13, cn14, cn16, cn17, cn18, cn19, cn20, cn21, cn22, cn23, cn24, cn25, cn26, cn27, cn28] at hM)))
   (refine bodyPost_ret (results_none rfl _ _ _) rfl ?_)
   rw [HK.out]
   exact ⟨rfl, ⟨d, by show c1.h = _; rw [hh1]; exact HHH.out, hM⟩⟩
  ·have HK := Lib.hid (HK1.out hf)
   have tf : (c1.o.cur - c1.o.una == 0) = false := by simpa using hf
   clear hf HK0 HK1
   go_upto_if 49 with (fail)
   clear c6 cw
   have cw2 : wq.cell? ⟨gc, 16, none⟩ = some (.pointer (some ⟨gw, 0, none⟩)) := by rw [← HWW.out]; exact hM.cells 2 rfl 16
   have HSL := Lib.hid (fun (W : World) h => Silent_any gw d.m d.s d.l (c1.o.cur - c1.o.una) W h hd (by omega) (by omega))
   go_upto_region 10 with (first
    | go_skip
    | (go_at_call 70; refine (HSL.out _ (hM.at_ 6 rfl)).mono ?_; rintro e W ⟨rfl, hT, hO⟩; replace hM := hM.atPut 6 rfl hO hT; clear hT hO cw2; simp only [zF, zE] at hM; dsimp only))
   go_wp2_with (first
    | go_skip
    | (go_at_call 71; refine (Back_any k.go c1.o k.vo _ (cq_hand hM)).mono ?_; rintro e W ⟨rfl, hN⟩; replace hM := cq_put hM hN; clear hN; dsimp only)
    | ((with_reducible refine at_load_ ?_); refine at_wanted_ (by rfl) ?_; first | (refine lM 2 hM rfl rfl rfl rfl ?_))
    | ((with_reducible refine at_store_ ?_); first | (refine sM 2 hM rfl rfl rfl ?_; clear hM; intro W hM; simp only [zF, zE, cnA, cn4, cn5, cn7, cn9, cn11, cn12, cn13, cn14, cn16, cn17, cn18, cn19, cn20, cn21, cn22, cn23, cn24, cn25, cn26, cn27, cn28] at hM)))
   go_end0
   rw [HK.out]
   exact ⟨rfl, ⟨_, rfl, hM⟩⟩
theorem cLate_o {c : KCn} (ok : OqOk c.o) : OqOk (cLate c).o ∧ (cLate c).o.base = c.o.base := by
 unfold cLate
 split
 ·exact ⟨ok, rfl⟩
 ·split
  ·exact ⟨ok, rfl⟩
  ·exact ⟨back_ok ok, rfl⟩
theorem cSettle_o (c : KCn) : (cSettle c).o = c.o ∧ (cSettle c).tm = c.tm ∧ (cSettle c).rs = c.rs ∧ (cSettle c).h = c.h := by
 unfold cSettle
 split
 ·exact ⟨rfl, rfl, rfl, rfl⟩
 ·split <;> exact ⟨rfl, rfl, rfl, rfl⟩
set_option maxRecDepth 100000 in
set_option maxHeartbeats 8000000 in
theorem tick_none {E : Nat → Prop} {w0 : World} (gc : Nat) (c : KCn) (k : KPt) (n : Int) (m : List Res) (w : World) (hM0 : MemX E w0 w (oqA k.go c.o k.vo :: oqB c.o k.vo :: cnA gc c k :: tmR k.gt c.tm :: m)) (ok : OqOk c.o) (hb : c.o.base ≤ 4611686018427387904) (ht : TimerOk c.tm.m c.tm.s c.tm.d) (hg : 0 ≤ c.gone) (hg2 : c.gone ≤ 8) (hnow : 0 ≤ c.now) (hnow2 : c.now ≤ 1099511627776) (hck : -1 ≤ c.clock) (hck2 : c.clock ≤ c.now) (hn : 0 ≤ n) (hn2 : n ≤ 1099511627776 - c.now) (hcu : c.o.cur ≤ 9223372036854775807) (hh : c.h = none) (hw : k.vw = .pointer none) :
  Calls Try.prog 18 #[.pointer (some ⟨gc, 0, none⟩), .int .i64 n] w fun e w' => e = .returned (.int .i64 0) ∧ MemX E w0 w' (oqA k.go (cTick c n).o k.vo :: oqB (cTick c n).o k.vo :: cnA gc (cTick c n) k :: tmR k.gt (cTick c n).tm :: m) := by
 have hM := hM0
 clear hM0
 obtain ⟨c1, hc1⟩ : ∃ z : KCn, z = { c with now := c.now + n } := ⟨_, rfl⟩
 have HT := Lib.hid (show cTick c n = cSettle (if c1.st = 9 ∧ c1.ends ≤ c1.now then cClosed c1 0 else if 0 ≤ c1.clock ∧ valZ c1.tm.k c1.tm.m c1.tm.s c1.tm.d ≤ c1.now - c1.clock then cLate c1 else c1) from by rw [hc1]; rfl)
 have HC1 := Lib.hid hc1
 have ok1 : OqOk c1.o := by rw [hc1]; exact ok
 have hb1 : c1.o.base ≤ 4611686018427387904 := by rw [hc1]; exact hb
 have ht1 : TimerOk c1.tm.m c1.tm.s c1.tm.d := by rw [hc1]; exact ht
 have hh1 : c1.h = none := by rw [hc1]; exact hh
 have hg1 : 0 ≤ c1.gone ∧ c1.gone ≤ 8 := by rw [hc1]; exact ⟨hg, hg2⟩
 have hcu1 : c1.o.cur ≤ 9223372036854775807 := by rw [hc1]; exact hcu
 have hn1 : 0 ≤ c1.now ∧ c1.now ≤ 1099511627776 := by rw [hc1]; exact ⟨by show 0 ≤ c.now + n; omega, by show c.now + n ≤ _; omega⟩
 have hk1 : -1 ≤ c1.clock ∧ c1.clock ≤ c1.now := by rw [hc1]; exact ⟨hck, by show c.clock ≤ c.now + n; omega⟩
 obtain ⟨hn1, hn1'⟩ := hn1
 obtain ⟨hk1, hk1'⟩ := hk1
 have HSA := Lib.hid (fun (W : World) h => settle_any (E := E) (w0 := w0) gc (cClosed c1 0) k (tmR k.gt c1.tm :: m) W h ok1 hb1)
 have HSB := Lib.hid (fun (W : World) h => settle_any (E := E) (w0 := w0) gc (cLate c1) k (tmR k.gt (cLate c1).tm :: m) W h (cLate_o ok1).1 (by rw [(cLate_o ok1).2]; exact hb1))
 have HSC := Lib.hid (fun (W : World) h => settle_any (E := E) (w0 := w0) gc c1 k (tmR k.gt c1.tm :: m) W h ok1 hb1)
 have HCL := Lib.hid (fun (W : World) h => closed_any (E := E) (w0 := w0) gc c1 k 0 (tmR k.gt c1.tm :: m) W h)
 have HLT := Lib.hid (fun (W : World) h => late_none (E := E) (w0 := w0) gc c1 k m W h ok1 hb1 ht1 hg1.1 hg1.2 hh1 hw hcu1)
 have HVL := Lib.hid (fun (W : World) h => Value_any k.gt c1.tm.k c1.tm.m c1.tm.s c1.tm.d W h ht1)
 have HH1 := Lib.hid hh1
 have t1 : decide (n < 0) = false := by simp; omega
 have t2 : decide (1099511627776 - c.now < n) = false := by simp; omega
 clear hc1 ok1 hb1 ht1 hg1 hcu1 hh1 ok hb ht hh hg hg2 hcu hck hck2 hw
 go_enter Try.func18, Try.ntmps18
 go_upto_region 4 with (first | go_skip | ((with_reducible refine at_load_ ?_); refine at_wanted_ (by rfl) ?_; first | (refine lM 2 hM rfl rfl rfl rfl ?_)) | ((with_reducible refine at_store_ ?_); first | (refine sM 2 hM rfl rfl rfl ?_; clear hM; intro W hM; simp only [zF, zE, cnA, cn4, cn5, cn7, cn9, cn11, cn12, cn13, cn14, cn16, cn17, cn18, cn19, cn20, cn21, cn22, cn23, cn24, cn25, cn26, cn27, cn28] at hM)))
 have hM2 : MemX E w0 W (oqA k.go c1.o k.vo :: oqB c1.o k.vo :: cnA gc c1 k :: tmR k.gt c1.tm :: m) := by rw [HC1.out]; exact hM
 clear hM HC1
 have hM := hM2
 clear hM2
 (try simp only [Act.put])
 have c4 : W.cell? ⟨gc, 4, none⟩ = some (.int .i64 c1.st) := hM.cells 2 rfl 4
 have c17 : W.cell? ⟨gc, 17, none⟩ = some (.int .i64 c1.now) := hM.cells 2 rfl 17
 have c18 : W.cell? ⟨gc, 18, none⟩ = some (.int .i64 c1.clock) := hM.cells 2 rfl 18
 have c21 : W.cell? ⟨gc, 21, none⟩ = some (.int .i64 c1.ends) := hM.cells 2 rfl 21
 have hlt := hM.lt 2 rfl
 by_cases hA : c1.st = 9 ∧ c1.ends ≤ c1.now
 ·obtain ⟨h9, he⟩ := hA
  have t9 : (c1.st == 9) = true := by simpa using h9
  have te : decide (c1.ends ≤ c1.now) = true := by simpa using he
  have HK := Lib.hid (show cTick c n = cSettle (cClosed c1 0) from by rw [HT.out, if_pos ⟨h9, he⟩])
  clear h9 he HT
  refine wp_region_later (by kernel_rfl) (by kernel_rfl) (fun hlc => ?_)
  repeat (go_big_quiet_step (fail))
  refine wpQuiet_nil ?_
  intro wq hbq
  clear hlc
  replace hM := hM.kept hbq
  clear hbq c4 c17 c18 c21 hlt
  go_wp2_with (first
   | go_skip
   | (go_at_call 44; refine (HCL.out _ hM).mono ?_; clear hM; rintro e W ⟨rfl, hM⟩; dsimp only)
   | (go_at_call 43; refine (HSA.out _ hM).mono ?_; clear hM; rintro e W ⟨rfl, hM⟩; dsimp only))
  go_ret
  rw [HK.out]
  obtain ⟨e1, e2, e3, e4⟩ := cSettle_o (cClosed c1 0)
  exact ⟨rfl, by rw [e1, e2]; exact hM⟩
 ·have HN := Lib.hid hA
  go_cut [24] (fun v W2 => v = .bool false ∧ MemX E w0 W2 (oqA k.go c1.o k.vo :: oqB c1.o k.vo :: cnA gc c1 k :: tmR k.gt c1.tm :: m))
  case first =>
   clear HSA HSB HSC HCL HLT HVL
   by_cases h9 : c1.st = 9
   ·have t9 : (c1.st == 9) = true := by simpa using h9
    have te : decide (c1.ends ≤ c1.now) = false := by simpa using (fun h => hA ⟨h9, h⟩)
    clear hA
    refine wp_region_later (by kernel_rfl) (by kernel_rfl) (fun hlc => ?_)
    repeat (go_big_quiet_step (fail))
    refine wpQuiet_nil ?_
    intro wq hbq
    clear hlc
    replace hM := hM.kept hbq
    clear hbq c4 c17 c18 c21 hlt
    go_wp2_with fail
    go_meet
    case rel => exact ⟨rfl, hM⟩
   ·have t9 : (c1.st == 9) = false := by simpa using h9
    clear hA
    refine wp_region_later (by kernel_rfl) (by kernel_rfl) (fun hlc => ?_)
    repeat (go_big_quiet_step (fail))
    refine wpQuiet_nil ?_
    intro wq hbq
    clear hlc
    replace hM := hM.kept hbq
    clear hbq c4 c17 c18 c21 hlt
    go_wp2_with fail
    go_meet
    case rel => exact ⟨rfl, hM⟩
  case rest =>
   clear hM c4 c17 c18 c21 hlt hA
   obtain ⟨rfl, hM⟩ := hcut
   have HT2 := Lib.hid (show cTick c n = cSettle (if 0 ≤ c1.clock ∧ valZ c1.tm.k c1.tm.m c1.tm.s c1.tm.d ≤ c1.now - c1.clock then cLate c1 else c1) from by rw [HT.out, if_neg HN.out])
   clear HT HN HSA HCL
   go_upto_region 6 with (fail)
   have c15 : wc.cell? ⟨gc, 15, none⟩ = some (.pointer (some ⟨k.gt, 0, none⟩)) := hM.cells 2 rfl 15
   have c17 : wc.cell? ⟨gc, 17, none⟩ = some (.int .i64 c1.now) := hM.cells 2 rfl 17
   have c18 : wc.cell? ⟨gc, 18, none⟩ = some (.int .i64 c1.clock) := hM.cells 2 rfl 18
   have hlt := hM.lt 2 rfl
   have HV := Lib.hid (fun (u : Later wc) => HVL.out u.now ((hM.at_ 3 rfl).kept u.still))
   obtain ⟨V, hV⟩ : ∃ z, z = valZ c1.tm.k c1.tm.m c1.tm.s c1.tm.d := ⟨_, rfl⟩
   rw [← hV] at HT2 HV
   clear hV HVL
   by_cases hk : 0 ≤ c1.clock
   ·have tk : decide (0 ≤ c1.clock) = true := by simpa using hk
    by_cases hv : V ≤ c1.now - c1.clock
    ·have tv : decide (V ≤ c1.now - c1.clock) = true := by simpa using hv
     have HK := Lib.hid (show cTick c n = cSettle (cLate c1) from by rw [HT2.out, if_pos ⟨hk, hv⟩])
     clear HT2 HSC
     refine wp_region_later (by kernel_rfl) (by kernel_rfl) (fun hlc => ?_)
     repeat (go_big_quiet_step ((first | (go_at_call 45; exact later_call (HV.out _)))))
     refine wpQuiet_nil ?_
     intro wq hbq
     clear hlc
     replace hM := hM.kept hbq
     clear hbq c15 c17 c18 hlt HV
     go_wp2_with (first
      | go_skip
      | (go_at_call 46; refine (HLT.out _ hM).mono ?_; clear hM; rintro e W ⟨rfl, hM⟩; dsimp only)
      | (go_at_call 43; refine (HSB.out _ hM).mono ?_; clear hM; rintro e W ⟨rfl, hM⟩; dsimp only))
     go_ret
     rw [HK.out]
     obtain ⟨e1, e2, e3, e4⟩ := cSettle_o (cLate c1)
     exact ⟨rfl, by rw [e1, e2]; exact hM⟩
    ·have tv : decide (V ≤ c1.now - c1.clock) = false := by simpa using hv
     have HK := Lib.hid (show cTick c n = cSettle c1 from by rw [HT2.out, if_neg (fun h => hv h.2)])
     clear HT2 HSB HLT
     refine wp_region_later (by kernel_rfl) (by kernel_rfl) (fun hlc => ?_)
     repeat (go_big_quiet_step ((first | (go_at_call 45; exact later_call (HV.out _)))))
     refine wpQuiet_nil ?_
     intro wq hbq
     clear hlc
     replace hM := hM.kept hbq
     clear hbq c15 c17 c18 hlt HV
     go_wp2_with (first
      | go_skip
      | (go_at_call 43; refine (HSC.out _ hM).mono ?_; clear hM; rintro e W ⟨rfl, hM⟩; dsimp only))
     go_ret
     rw [HK.out]
     obtain ⟨e1, e2, e3, e4⟩ := cSettle_o c1
     exact ⟨rfl, by rw [e1, e2]; exact hM⟩
   ·have tk : decide (0 ≤ c1.clock) = false := by simpa using hk
    have HK := Lib.hid (show cTick c n = cSettle c1 from by rw [HT2.out, if_neg (fun h => hk h.1)])
    clear HT2 HSB HLT
    refine wp_region_later (by kernel_rfl) (by kernel_rfl) (fun hlc => ?_)
    repeat (go_big_quiet_step ((first | (go_at_call 45; exact later_call (HV.out _)))))
    refine wpQuiet_nil ?_
    intro wq hbq
    clear hlc
    replace hM := hM.kept hbq
    clear hbq c15 c17 c18 hlt HV
    go_wp2_with (first
     | go_skip
     | (go_at_call 43; refine (HSC.out _ hM).mono ?_; clear hM; rintro e W ⟨rfl, hM⟩; dsimp only))
    go_ret
    rw [HK.out]
    obtain ⟨e1, e2, e3, e4⟩ := cSettle_o c1
    exact ⟨rfl, by rw [e1, e2]; exact hM⟩
set_option maxRecDepth 100000 in
set_option maxHeartbeats 8000000 in
theorem tick_some {E : Nat → Prop} {w0 : World} (gc : Nat) (c : KCn) (k : KPt) (gi gw : Nat) (q : IQ) (d : KWd) (n : Int) (m : List Res) (w : World) (hM0 : MemX E w0 w (oqA k.go c.o k.vo :: oqB c.o k.vo :: cnA gc c k :: tmR k.gt c.tm :: rsR k.vr c.rs :: iqR gi q :: wdR gw d :: m)) (ok : OqOk c.o) (hb : c.o.base ≤ 4611686018427387904) (ht : TimerOk c.tm.m c.tm.s c.tm.d) (hg : 0 ≤ c.gone) (hg2 : c.gone ≤ 8) (hnow : 0 ≤ c.now) (hnow2 : c.now ≤ 1099511627776) (hck : -1 ≤ c.clock) (hck2 : c.clock ≤ c.now) (hn : 0 ≤ n) (hn2 : n ≤ 1099511627776 - c.now) (hcu : c.o.cur ≤ 9223372036854775807) (hh : c.h = some (q, d)) (hw : k.vw = .pointer (some ⟨gw, 0, none⟩)) (hd : WindowOk d.m d.s d.l) :
  Calls Try.prog 18 #[.pointer (some ⟨gc, 0, none⟩), .int .i64 n] w fun e w' => e = .returned (.int .i64 0) ∧ ∃ d', (cTick c n).h = some (q, d') ∧ MemX E w0 w' (oqA k.go (cTick c n).o k.vo :: oqB (cTick c n).o k.vo :: cnA gc (cTick c n) k :: tmR k.gt (cTick c n).tm :: rsR k.vr (cTick c n).rs :: iqR gi q :: wdR gw d' :: m) := by
 have hM := hM0
 clear hM0
 obtain ⟨c1, hc1⟩ : ∃ z : KCn, z = { c with now := c.now + n } := ⟨_, rfl⟩
 have HT := Lib.hid (show cTick c n = cSettle (if c1.st = 9 ∧ c1.ends ≤ c1.now then cClosed c1 0 else if 0 ≤ c1.clock ∧ valZ c1.tm.k c1.tm.m c1.tm.s c1.tm.d ≤ c1.now - c1.clock then cLate c1 else c1) from by rw [hc1]; rfl)
 have HC1 := Lib.hid hc1
 have ok1 : OqOk c1.o := by rw [hc1]; exact ok
 have hb1 : c1.o.base ≤ 4611686018427387904 := by rw [hc1]; exact hb
 have ht1 : TimerOk c1.tm.m c1.tm.s c1.tm.d := by rw [hc1]; exact ht
 have hh1 : c1.h = some (q, d) := by rw [hc1]; exact hh
 have hg1 : 0 ≤ c1.gone ∧ c1.gone ≤ 8 := by rw [hc1]; exact ⟨hg, hg2⟩
 have hcu1 : c1.o.cur ≤ 9223372036854775807 := by rw [hc1]; exact hcu
 have hn1 : 0 ≤ c1.now ∧ c1.now ≤ 1099511627776 := by rw [hc1]; exact ⟨by show 0 ≤ c.now + n; omega, by show c.now + n ≤ _; omega⟩
 have hk1 : -1 ≤ c1.clock ∧ c1.clock ≤ c1.now := by rw [hc1]; exact ⟨hck, by show c.clock ≤ c.now + n; omega⟩
 obtain ⟨hn1, hn1'⟩ := hn1
 obtain ⟨hk1, hk1'⟩ := hk1
 have HSA := Lib.hid (fun (W : World) h => settle_any (E := E) (w0 := w0) gc (cClosed c1 0) k (tmR k.gt c1.tm :: rsR k.vr c1.rs :: iqR gi q :: wdR gw d :: m) W h ok1 hb1)
 have HSB := Lib.hid (fun (W : World) d' h => settle_any (E := E) (w0 := w0) gc (cLate c1) k (tmR k.gt (cLate c1).tm :: rsR k.vr (cLate c1).rs :: iqR gi q :: wdR gw d' :: m) W h (cLate_o ok1).1 (by rw [(cLate_o ok1).2]; exact hb1))
 have HSC := Lib.hid (fun (W : World) h => settle_any (E := E) (w0 := w0) gc c1 k (tmR k.gt c1.tm :: rsR k.vr c1.rs :: iqR gi q :: wdR gw d :: m) W h ok1 hb1)
 have HCL := Lib.hid (fun (W : World) h => closed_any (E := E) (w0 := w0) gc c1 k 0 (tmR k.gt c1.tm :: rsR k.vr c1.rs :: iqR gi q :: wdR gw d :: m) W h)
 have HLT := Lib.hid (fun (W : World) h => late_some (E := E) (w0 := w0) gc c1 k gi gw q d m W h ok1 hb1 ht1 hg1.1 hg1.2 hh1 hw hd hcu1)
 have HVL := Lib.hid (fun (W : World) h => Value_any k.gt c1.tm.k c1.tm.m c1.tm.s c1.tm.d W h ht1)
 have HH1 := Lib.hid hh1
 have t1 : decide (n < 0) = false := by simp; omega
 have t2 : decide (1099511627776 - c.now < n) = false := by simp; omega
 clear hc1 ok1 hb1 ht1 hg1 hcu1 hh1 ok hb ht hh hg hg2 hcu hck hck2 hw
 go_enter Try.func18, Try.ntmps18
 go_upto_region 4 with (first | go_skip | ((with_reducible refine at_load_ ?_); refine at_wanted_ (by rfl) ?_; first | (refine lM 2 hM rfl rfl rfl rfl ?_)) | ((with_reducible refine at_store_ ?_); first | (refine sM 2 hM rfl rfl rfl ?_; clear hM; intro W hM; simp only [zF, zE, cnA, cn4, cn5, cn7, cn9, cn11, cn12, cn13, cn14, cn16, cn17, cn18, cn19, cn20, cn21, cn22, cn23, cn24, cn25, cn26, cn27, cn28] at hM)))
 have hM2 : MemX E w0 W (oqA k.go c1.o k.vo :: oqB c1.o k.vo :: cnA gc c1 k :: tmR k.gt c1.tm :: rsR k.vr c1.rs :: iqR gi q :: wdR gw d :: m) := by rw [HC1.out]; exact hM
 clear hM HC1
 have hM := hM2
 clear hM2
 (try simp only [Act.put])
 have c4 : W.cell? ⟨gc, 4, none⟩ = some (.int .i64 c1.st) := hM.cells 2 rfl 4
 have c17 : W.cell? ⟨gc, 17, none⟩ = some (.int .i64 c1.now) := hM.cells 2 rfl 17
 have c18 : W.cell? ⟨gc, 18, none⟩ = some (.int .i64 c1.clock) := hM.cells 2 rfl 18
 have c21 : W.cell? ⟨gc, 21, none⟩ = some (.int .i64 c1.ends) := hM.cells 2 rfl 21
 have hlt := hM.lt 2 rfl
 by_cases hA : c1.st = 9 ∧ c1.ends ≤ c1.now
 ·obtain ⟨h9, he⟩ := hA
  have t9 : (c1.st == 9) = true := by simpa using h9
  have te : decide (c1.ends ≤ c1.now) = true := by simpa using he
  have HK := Lib.hid (show cTick c n = cSettle (cClosed c1 0) from by rw [HT.out, if_pos ⟨h9, he⟩])
  clear h9 he HT
  refine wp_region_later (by kernel_rfl) (by kernel_rfl) (fun hlc => ?_)
  repeat (go_big_quiet_step (fail))
  refine wpQuiet_nil ?_
  intro wq hbq
  clear hlc
  replace hM := hM.kept hbq
  clear hbq c4 c17 c18 c21 hlt
  go_wp2_with (first
   | go_skip
   | (go_at_call 44; refine (HCL.out _ hM).mono ?_; clear hM; rintro e W ⟨rfl, hM⟩; dsimp only)
   | (go_at_call 43; refine (HSA.out _ hM).mono ?_; clear hM; rintro e W ⟨rfl, hM⟩; dsimp only))
  go_ret
  rw [HK.out]
  obtain ⟨e1, e2, e3, e4⟩ := cSettle_o (cClosed c1 0)
  exact ⟨rfl, ⟨d, by rw [e4]; exact HH1.out, by rw [e1, e2, e3]; exact hM⟩⟩
 ·have HN := Lib.hid hA
  go_cut [24] (fun v W2 => v = .bool false ∧ MemX E w0 W2 (oqA k.go c1.o k.vo :: oqB c1.o k.vo :: cnA gc c1 k :: tmR k.gt c1.tm :: rsR k.vr c1.rs :: iqR gi q :: wdR gw d :: m))
  case first =>
   clear HSA HSB HSC HCL HLT HVL
   by_cases h9 : c1.st = 9
   ·have t9 : (c1.st == 9) = true := by simpa using h9
    have te : decide (c1.ends ≤ c1.now) = false := by simpa using (fun h => hA ⟨h9, h⟩)
    clear hA
    refine wp_region_later (by kernel_rfl) (by kernel_rfl) (fun hlc => ?_)
    repeat (go_big_quiet_step (fail))
    refine wpQuiet_nil ?_
    intro wq hbq
    clear hlc
    replace hM := hM.kept hbq
    clear hbq c4 c17 c18 c21 hlt
    go_wp2_with fail
    go_meet
    case rel => exact ⟨rfl, hM⟩
   ·have t9 : (c1.st == 9) = false := by simpa using h9
    clear hA
    refine wp_region_later (by kernel_rfl) (by kernel_rfl) (fun hlc => ?_)
    repeat (go_big_quiet_step (fail))
    refine wpQuiet_nil ?_
    intro wq hbq
    clear hlc
    replace hM := hM.kept hbq
    clear hbq c4 c17 c18 c21 hlt
    go_wp2_with fail
    go_meet
    case rel => exact ⟨rfl, hM⟩
  case rest =>
   clear hM c4 c17 c18 c21 hlt hA
   obtain ⟨rfl, hM⟩ := hcut
   have HT2 := Lib.hid (show cTick c n = cSettle (if 0 ≤ c1.clock ∧ valZ c1.tm.k c1.tm.m c1.tm.s c1.tm.d ≤ c1.now - c1.clock then cLate c1 else c1) from by rw [HT.out, if_neg HN.out])
   clear HT HN HSA HCL
   go_upto_region 6 with (fail)
   have c15 : wc.cell? ⟨gc, 15, none⟩ = some (.pointer (some ⟨k.gt, 0, none⟩)) := hM.cells 2 rfl 15
   have c17 : wc.cell? ⟨gc, 17, none⟩ = some (.int .i64 c1.now) := hM.cells 2 rfl 17
   have c18 : wc.cell? ⟨gc, 18, none⟩ = some (.int .i64 c1.clock) := hM.cells 2 rfl 18
   have hlt := hM.lt 2 rfl
   have HV := Lib.hid (fun (u : Later wc) => HVL.out u.now ((hM.at_ 3 rfl).kept u.still))
   obtain ⟨V, hV⟩ : ∃ z, z = valZ c1.tm.k c1.tm.m c1.tm.s c1.tm.d := ⟨_, rfl⟩
   rw [← hV] at HT2 HV
   clear hV HVL
   by_cases hk : 0 ≤ c1.clock
   ·have tk : decide (0 ≤ c1.clock) = true := by simpa using hk
    by_cases hv : V ≤ c1.now - c1.clock
    ·have tv : decide (V ≤ c1.now - c1.clock) = true := by simpa using hv
     have HK := Lib.hid (show cTick c n = cSettle (cLate c1) from by rw [HT2.out, if_pos ⟨hk, hv⟩])
     clear HT2 HSC
     refine wp_region_later (by kernel_rfl) (by kernel_rfl) (fun hlc => ?_)
     repeat (go_big_quiet_step ((first | (go_at_call 45; exact later_call (HV.out _)))))
     refine wpQuiet_nil ?_
     intro wq hbq
     clear hlc
     replace hM := hM.kept hbq
     clear hbq c15 c17 c18 hlt HV
     go_wp2_with (first
      | go_skip
      | (go_at_call 46; refine (HLT.out _ hM).mono ?_; clear hM; rintro e W ⟨rfl, d', hh', hM⟩; dsimp only)
      | (go_at_call 43; refine (HSB.out _ _ hM).mono ?_; clear hM; rintro e W ⟨rfl, hM⟩; dsimp only))
     go_ret
     rw [HK.out]
     obtain ⟨e1, e2, e3, e4⟩ := cSettle_o (cLate c1)
     exact ⟨rfl, ⟨d', by rw [e4]; exact hh', by rw [e1, e2, e3]; exact hM⟩⟩
    ·have tv : decide (V ≤ c1.now - c1.clock) = false := by simpa using hv
     have HK := Lib.hid (show cTick c n = cSettle c1 from by rw [HT2.out, if_neg (fun h => hv h.2)])
     clear HT2 HSB HLT
     refine wp_region_later (by kernel_rfl) (by kernel_rfl) (fun hlc => ?_)
     repeat (go_big_quiet_step ((first | (go_at_call 45; exact later_call (HV.out _)))))
     refine wpQuiet_nil ?_
     intro wq hbq
     clear hlc
     replace hM := hM.kept hbq
     clear hbq c15 c17 c18 hlt HV
     go_wp2_with (first
      | go_skip
      | (go_at_call 43; refine (HSC.out _ hM).mono ?_; clear hM; rintro e W ⟨rfl, hM⟩; dsimp only))
     go_ret
     rw [HK.out]
     obtain ⟨e1, e2, e3, e4⟩ := cSettle_o c1
     exact ⟨rfl, ⟨d, by rw [e4]; exact HH1.out, by rw [e1, e2, e3]; exact hM⟩⟩
   ·have tk : decide (0 ≤ c1.clock) = false := by simpa using hk
    have HK := Lib.hid (show cTick c n = cSettle c1 from by rw [HT2.out, if_neg (fun h => hk h.1)])
    clear HT2 HSB HLT
    refine wp_region_later (by kernel_rfl) (by kernel_rfl) (fun hlc => ?_)
    repeat (go_big_quiet_step ((first | (go_at_call 45; exact later_call (HV.out _)))))
    refine wpQuiet_nil ?_
    intro wq hbq
    clear hlc
    replace hM := hM.kept hbq
    clear hbq c15 c17 c18 hlt HV
    go_wp2_with (first
     | go_skip
     | (go_at_call 43; refine (HSC.out _ hM).mono ?_; clear hM; rintro e W ⟨rfl, hM⟩; dsimp only))
    go_ret
    rw [HK.out]
    obtain ⟨e1, e2, e3, e4⟩ := cSettle_o c1
    exact ⟨rfl, ⟨d, by rw [e4]; exact HH1.out, by rw [e1, e2, e3]; exact hM⟩⟩
end Go.Proofs.Ytfpifahkpkjfgaa
