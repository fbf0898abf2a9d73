/- conn: late, Tick. Written by my gencn.py. -/
import Derived.Test.YtfpifahkpkjfgaaCnM
import Derived.Test.YtfpifahkpkjfgaaCnA
import Derived.Deep.CutBlock
namespace Go.Proofs.Ytfpifahkpkjfgaa
open Go.RowKit Go.Lib
set_option linter.unusedVariables false
set_option linter.unusedSimpArgs false


set_option maxRecDepth 100000 in
set_option maxHeartbeats 8000000 in
theorem late_none {E : Nat → Prop} {w0 : World} (gc : Nat) (c : KCn) (k : KPt) (m : List Res) (w : World) (hM0 : MemX E w0 w (oqA k.go c.o k.vo :: oqB c.o k.vo :: cnA gc c k :: tmR k.gt c.tm :: m)) (ok : OqOk c.o) (hb : c.o.base ≤ 4611686018427387904) (ht : TimerOk c.tm.m c.tm.s c.tm.d) (hg : 0 ≤ c.gone) (hg2 : c.gone ≤ 8) (hh : c.h = none) (hw : k.vw = .pointer none) (hcu : c.o.cur ≤ 9223372036854775807) :
    Calls Try.prog 46 #[.pointer (some ⟨gc, 0, none⟩)] w fun e w' => e = .returned (.tuple #[]) ∧ MemX E w0 w' (oqA k.go (cLate c).o k.vo :: oqB (cLate c).o k.vo :: cnA gc (cLate c) k :: tmR k.gt (cLate c).tm :: m) := by
  have hM := hM0
  clear hM0
  have hu := ok.uc
  have hcs := ok.cs
  by_cases h8 : c.gone = 8
  · have HK := Lib.hid (show cLate c = cClosed c 13 from by unfold cLate; rw [if_pos h8])
    have t8 : (c.gone == 8) = true := by simpa using h8
    have HC := Lib.hid (fun (W : World) h => closed_any (E := E) (w0 := w0) gc c k 13 (tmR k.gt c.tm :: m) W h)
    clear h8
    go_enter Try.func46, Try.ntmps46
    go_wp2_with (first | go_skip | (go_at_call 44; refine (HC.out _ hM).mono ?_; clear hM; rintro e W ⟨rfl, hM⟩; dsimp only) | ((with_reducible refine at_load_ ?_); refine at_wanted_ (by rfl) ?_; first | (refine wpList_loadf_mem (by go_simp) _ _ rfl (by kernel_rfl) 2 _ _ _ _ _ hM rfl rfl rfl ?_)))
    (refine bodyPost_ret (results_none rfl _ _ _) rfl ?_)
    rw [HK.out]
    exact ⟨rfl, hM⟩
  · have t8 : (c.gone == 8) = false := by simpa using h8
    have HLT := Lib.hid (fun (W : World) h => Late_any k.gt c.tm.k c.tm.m c.tm.s c.tm.d W h ht)
    have HHH := Lib.hid hh
    have HWW := Lib.hid hw
    obtain ⟨c1, hc1⟩ : ∃ z : KCn, z = { c with gone := c.gone + 1, tm := { c.tm with d := if c.tm.d < 6 then c.tm.d + 1 else 6 }, clock := c.now } := ⟨_, rfl⟩
    have HC1 := Lib.hid hc1
    have ho1 : c1.o = c.o := by rw [hc1]
    have hh1 : c1.h = c.h := by rw [hc1]
    have HK0 := Lib.hid (fun (hf : c1.o.cur - c1.o.una = 0) => (by rw [ho1] at hf; unfold cLate; rw [if_neg h8, if_pos hf, hc1] : cLate c = { c1 with probe := true }))
    have HK1 := Lib.hid (fun (hf : c1.o.cur - c1.o.una ≠ 0) => (by rw [ho1] at hf ⊢; unfold cLate; rw [if_neg h8, if_neg hf, hc1, hh]; rfl : cLate c = { c1 with o := { c1.o with cur := c1.o.una }, meas := 0, h := none }))
    clear h8 hc1 hh hw
    go_enter Try.func46, Try.ntmps46
    go_upto_region 5 with (first
      | go_skip
      | (go_at_call 69; refine (HLT.out _ (hM.at_ 3 rfl)).mono ?_; rintro e W ⟨rfl, hT, hO⟩; replace hM := hM.atPut 3 rfl hO hT; clear hT hO; simp only [List.set_cons_succ, List.set_cons_zero] at hM; dsimp only)
      | ((with_reducible refine at_load_ ?_); refine at_wanted_ (by rfl) ?_; first | (refine wpList_loadf_mem (by go_simp) _ _ rfl (by kernel_rfl) 2 _ _ _ _ _ hM rfl rfl rfl ?_))
      | ((with_reducible refine at_store_ ?_); first | (refine wpList_store1_mem rfl _ _ _ rfl 2 _ _ _ _ _ hM rfl rfl (by first | ((conv => lhs; whnf); done) | ((conv => lhs; whnf); rfl)) (by rfl) (by rfl) (by kernel_rfl) rfl ?_; clear hM; intro W hM; simp only [List.set_cons_succ, List.set_cons_zero, cnA, cn4, cn5, cn7, cn9, cn11, cn12, cn13, cn14, cn16, cn17, cn18, cn19, cn20, cn21, cn22, cn23, cn24, cn25, cn26, cn27, cn28] at hM)))
    have hM2 : MemX E w0 W (oqA k.go c1.o k.vo :: oqB c1.o k.vo :: cnA gc c1 k :: tmR k.gt c1.tm :: m) := by rw [HC1.out]; exact hM
    clear hM
    have hM := hM2
    clear hM2
    rw [← ho1] at hu hcs hcu
    have HU := Lib.hid (fun (u : Later W) => Una_any k.go c1.o k.vo u.now ((hM.at_ 0 rfl).kept u.still))
    have HC := Lib.hid (fun (u : Later W) => Cur_any k.go c1.o k.vo u.now ((hM.at_ 0 rfl).kept u.still))
    have hlt := hM.lt 2 rfl
    have c6 : W.cell? ⟨gc, 6, none⟩ = some (.pointer (some ⟨k.go, 0, none⟩)) := hM.cells 2 rfl 6
    clear HC1 HLT t8 ho1
    (try simp only [Act.put])
    refine wp_region_later (by kernel_rfl) (by kernel_rfl) (fun hlc => ?_)
    repeat (go_big_quiet_step ((first | (go_at_call 63; exact later_same (HU.out _)) | (go_at_call 41; exact later_same (HC.out _)))))
    refine wpQuiet_nil ?_
    intro wq hbq
    clear hlc
    replace hM := hM.kept hbq
    clear hbq c6 hlt HU HC
    have c6 : wq.cell? ⟨gc, 6, none⟩ = some (.pointer (some ⟨k.go, 0, none⟩)) := hM.cells 2 rfl 6
    have cw : wq.cell? ⟨gc, 16, none⟩ = some (.pointer none) := by rw [← HWW.out]; exact hM.cells 2 rfl 16
    by_cases hf : c1.o.cur - c1.o.una = 0
    · have HK := Lib.hid (HK0.out hf)
      have tf : (c1.o.cur - c1.o.una == 0) = true := by simpa using hf
      clear hf HK0 HK1
      go_wp2_with (first | go_skip | ((with_reducible refine at_store_ ?_); first | (refine wpList_store1_mem rfl _ _ _ rfl 2 _ _ _ _ _ hM rfl rfl (by first | ((conv => lhs; whnf); done) | ((conv => lhs; whnf); rfl)) (by rfl) (by rfl) (by kernel_rfl) rfl ?_; clear hM; intro W hM; simp only [List.set_cons_succ, List.set_cons_zero, cnA, cn4, cn5, cn7, cn9, cn11, cn12, cn13, cn14, cn16, cn17, cn18, cn19, cn20, cn21, cn22, cn23, cn24, cn25, cn26, cn27, cn28] at hM)))
      (refine bodyPost_ret (results_none rfl _ _ _) rfl ?_)
      rw [HK.out]
      exact ⟨rfl, hM⟩
    · have HK := Lib.hid (HK1.out hf)
      have tf : (c1.o.cur - c1.o.una == 0) = false := by simpa using hf
      clear hf HK0 HK1
      go_upto_if 49 with (fail)
      clear c6 cw

      go_wp2_with (first
        | go_skip
        | (go_at_call 71; refine (Back_any k.go c1.o k.vo _ (cq_hand hM)).mono ?_; rintro e W ⟨rfl, hN⟩; replace hM := cq_put hM hN; clear hN; dsimp only)
        | ((with_reducible refine at_load_ ?_); refine at_wanted_ (by rfl) ?_; first | (refine wpList_loadf_mem (by go_simp) _ _ rfl (by kernel_rfl) 2 _ _ _ _ _ hM rfl rfl rfl ?_))
        | ((with_reducible refine at_store_ ?_); first | (refine wpList_store1_mem rfl _ _ _ rfl 2 _ _ _ _ _ hM rfl rfl (by first | ((conv => lhs; whnf); done) | ((conv => lhs; whnf); rfl)) (by rfl) (by rfl) (by kernel_rfl) rfl ?_; clear hM; intro W hM; simp only [List.set_cons_succ, List.set_cons_zero, cnA, cn4, cn5, cn7, cn9, cn11, cn12, cn13, cn14, cn16, cn17, cn18, cn19, cn20, cn21, cn22, cn23, cn24, cn25, cn26, cn27, cn28] at hM)))
      go_end0
      rw [HK.out]
      exact ⟨rfl, hM⟩
set_option maxRecDepth 100000 in
set_option maxHeartbeats 8000000 in
theorem late_some {E : Nat → Prop} {w0 : World} (gc : Nat) (c : KCn) (k : KPt) (gi gw : Nat) (q : IQ) (d : KWd) (m : List Res) (w : World) (hM0 : MemX E w0 w (oqA k.go c.o k.vo :: oqB c.o k.vo :: cnA gc c k :: tmR k.gt c.tm :: rsR k.vr c.rs :: iqR gi q :: wdR gw d :: m)) (ok : OqOk c.o) (hb : c.o.base ≤ 4611686018427387904) (ht : TimerOk c.tm.m c.tm.s c.tm.d) (hg : 0 ≤ c.gone) (hg2 : c.gone ≤ 8) (hh : c.h = some (q, d)) (hw : k.vw = .pointer (some ⟨gw, 0, none⟩)) (hd : WindowOk d.m d.s d.l) (hcu : c.o.cur ≤ 9223372036854775807) :
    Calls Try.prog 46 #[.pointer (some ⟨gc, 0, none⟩)] w fun e w' => e = .returned (.tuple #[]) ∧ ∃ d', (cLate c).h = some (q, d') ∧ MemX E w0 w' (oqA k.go (cLate c).o k.vo :: oqB (cLate c).o k.vo :: cnA gc (cLate c) k :: tmR k.gt (cLate c).tm :: rsR k.vr (cLate c).rs :: iqR gi q :: wdR gw d' :: m) := by
  have hM := hM0
  clear hM0
  have hu := ok.uc
  have hcs := ok.cs
  by_cases h8 : c.gone = 8
  · have HK := Lib.hid (show cLate c = cClosed c 13 from by unfold cLate; rw [if_pos h8])
    have t8 : (c.gone == 8) = true := by simpa using h8
    have HC := Lib.hid (fun (W : World) h => closed_any (E := E) (w0 := w0) gc c k 13 (tmR k.gt c.tm :: rsR k.vr c.rs :: iqR gi q :: wdR gw d :: m) W h)
    clear h8
    go_enter Try.func46, Try.ntmps46
    go_wp2_with (first | go_skip | (go_at_call 44; refine (HC.out _ hM).mono ?_; clear hM; rintro e W ⟨rfl, hM⟩; dsimp only) | ((with_reducible refine at_load_ ?_); refine at_wanted_ (by rfl) ?_; first | (refine wpList_loadf_mem (by go_simp) _ _ rfl (by kernel_rfl) 2 _ _ _ _ _ hM rfl rfl rfl ?_)))
    (refine bodyPost_ret (results_none rfl _ _ _) rfl ?_)
    rw [HK.out]
    exact ⟨rfl, ⟨d, by show c.h = _; exact hh, hM⟩⟩
  · have t8 : (c.gone == 8) = false := by simpa using h8
    have HLT := Lib.hid (fun (W : World) h => Late_any k.gt c.tm.k c.tm.m c.tm.s c.tm.d W h ht)
    have HHH := Lib.hid hh
    have HWW := Lib.hid hw
    obtain ⟨c1, hc1⟩ : ∃ z : KCn, z = { c with gone := c.gone + 1, tm := { c.tm with d := if c.tm.d < 6 then c.tm.d + 1 else 6 }, clock := c.now } := ⟨_, rfl⟩
    have HC1 := Lib.hid hc1
    have ho1 : c1.o = c.o := by rw [hc1]
    have hh1 : c1.h = c.h := by rw [hc1]
    have HK0 := Lib.hid (fun (hf : c1.o.cur - c1.o.una = 0) => (by rw [ho1] at hf; unfold cLate; rw [if_neg h8, if_pos hf, hc1] : cLate c = { c1 with probe := true }))
    have HK1 := Lib.hid (fun (hf : c1.o.cur - c1.o.una ≠ 0) => (by rw [ho1] at hf ⊢; unfold cLate; rw [if_neg h8, if_neg hf, hc1, hh]; rfl : cLate c = { c1 with o := { c1.o with cur := c1.o.una }, meas := 0, h := some (q, ⟨d.m, d.m, halfZ d.m (c1.o.cur - c1.o.una)⟩) }))
    clear h8 hc1 hh hw
    go_enter Try.func46, Try.ntmps46
    go_upto_region 5 with (first
      | go_skip
      | (go_at_call 69; refine (HLT.out _ (hM.at_ 3 rfl)).mono ?_; rintro e W ⟨rfl, hT, hO⟩; replace hM := hM.atPut 3 rfl hO hT; clear hT hO; simp only [List.set_cons_succ, List.set_cons_zero] at hM; dsimp only)
      | ((with_reducible refine at_load_ ?_); refine at_wanted_ (by rfl) ?_; first | (refine wpList_loadf_mem (by go_simp) _ _ rfl (by kernel_rfl) 2 _ _ _ _ _ hM rfl rfl rfl ?_))
      | ((with_reducible refine at_store_ ?_); first | (refine wpList_store1_mem rfl _ _ _ rfl 2 _ _ _ _ _ hM rfl rfl (by first | ((conv => lhs; whnf); done) | ((conv => lhs; whnf); rfl)) (by rfl) (by rfl) (by kernel_rfl) rfl ?_; clear hM; intro W hM; simp only [List.set_cons_succ, List.set_cons_zero, cnA, cn4, cn5, cn7, cn9, cn11, cn12, cn13, cn14, cn16, cn17, cn18, cn19, cn20, cn21, cn22, cn23, cn24, cn25, cn26, cn27, cn28] at hM)))
    have hM2 : MemX E w0 W (oqA k.go c1.o k.vo :: oqB c1.o k.vo :: cnA gc c1 k :: tmR k.gt c1.tm :: rsR k.vr c1.rs :: iqR gi q :: wdR gw d :: m) := by rw [HC1.out]; exact hM
    clear hM
    have hM := hM2
    clear hM2
    rw [← ho1] at hu hcs hcu
    have HU := Lib.hid (fun (u : Later W) => Una_any k.go c1.o k.vo u.now ((hM.at_ 0 rfl).kept u.still))
    have HC := Lib.hid (fun (u : Later W) => Cur_any k.go c1.o k.vo u.now ((hM.at_ 0 rfl).kept u.still))
    have hlt := hM.lt 2 rfl
    have c6 : W.cell? ⟨gc, 6, none⟩ = some (.pointer (some ⟨k.go, 0, none⟩)) := hM.cells 2 rfl 6
    clear HC1 HLT t8 ho1
    (try simp only [Act.put])
    refine wp_region_later (by kernel_rfl) (by kernel_rfl) (fun hlc => ?_)
    repeat (go_big_quiet_step ((first | (go_at_call 63; exact later_same (HU.out _)) | (go_at_call 41; exact later_same (HC.out _)))))
    refine wpQuiet_nil ?_
    intro wq hbq
    clear hlc
    replace hM := hM.kept hbq
    clear hbq c6 hlt HU HC
    have c6 : wq.cell? ⟨gc, 6, none⟩ = some (.pointer (some ⟨k.go, 0, none⟩)) := hM.cells 2 rfl 6
    have cw : wq.cell? ⟨gc, 16, none⟩ = some (.pointer (some ⟨gw, 0, none⟩)) := by rw [← HWW.out]; exact hM.cells 2 rfl 16
    by_cases hf : c1.o.cur - c1.o.una = 0
    · have HK := Lib.hid (HK0.out hf)
      have tf : (c1.o.cur - c1.o.una == 0) = true := by simpa using hf
      clear hf HK0 HK1
      go_wp2_with (first | go_skip | ((with_reducible refine at_store_ ?_); first | (refine wpList_store1_mem rfl _ _ _ rfl 2 _ _ _ _ _ hM rfl rfl (by first | ((conv => lhs; whnf); done) | ((conv => lhs; whnf); rfl)) (by rfl) (by rfl) (by kernel_rfl) rfl ?_; clear hM; intro W hM; simp only [List.set_cons_succ, List.set_cons_zero, cnA, cn4, cn5, cn7, cn9, cn11, cn12, cn13, cn14, cn16, cn17, cn18, cn19, cn20, cn21, cn22, cn23, cn24, cn25, cn26, cn27, cn28] at hM)))
      (refine bodyPost_ret (results_none rfl _ _ _) rfl ?_)
      rw [HK.out]
      exact ⟨rfl, ⟨d, by show c1.h = _; rw [hh1]; exact HHH.out, hM⟩⟩
    · have HK := Lib.hid (HK1.out hf)
      have tf : (c1.o.cur - c1.o.una == 0) = false := by simpa using hf
      clear hf HK0 HK1
      go_upto_if 49 with (fail)
      clear c6 cw
      have cw2 : wq.cell? ⟨gc, 16, none⟩ = some (.pointer (some ⟨gw, 0, none⟩)) := by rw [← HWW.out]; exact hM.cells 2 rfl 16
      have HSL := Lib.hid (fun (W : World) h => Silent_any gw d.m d.s d.l (c1.o.cur - c1.o.una) W h hd (by omega) (by omega))
      go_upto_region 10 with (first
        | go_skip
        | (go_at_call 70; refine (HSL.out _ (hM.at_ 6 rfl)).mono ?_; rintro e W ⟨rfl, hT, hO⟩; replace hM := hM.atPut 6 rfl hO hT; clear hT hO cw2; simp only [List.set_cons_succ, List.set_cons_zero] at hM; dsimp only))
      go_wp2_with (first
        | go_skip
        | (go_at_call 71; refine (Back_any k.go c1.o k.vo _ (cq_hand hM)).mono ?_; rintro e W ⟨rfl, hN⟩; replace hM := cq_put hM hN; clear hN; dsimp only)
        | ((with_reducible refine at_load_ ?_); refine at_wanted_ (by rfl) ?_; first | (refine wpList_loadf_mem (by go_simp) _ _ rfl (by kernel_rfl) 2 _ _ _ _ _ hM rfl rfl rfl ?_))
        | ((with_reducible refine at_store_ ?_); first | (refine wpList_store1_mem rfl _ _ _ rfl 2 _ _ _ _ _ hM rfl rfl (by first | ((conv => lhs; whnf); done) | ((conv => lhs; whnf); rfl)) (by rfl) (by rfl) (by kernel_rfl) rfl ?_; clear hM; intro W hM; simp only [List.set_cons_succ, List.set_cons_zero, cnA, cn4, cn5, cn7, cn9, cn11, cn12, cn13, cn14, cn16, cn17, cn18, cn19, cn20, cn21, cn22, cn23, cn24, cn25, cn26, cn27, cn28] at hM)))
      go_end0
      rw [HK.out]
      exact ⟨rfl, ⟨_, rfl, hM⟩⟩
end Go.Proofs.Ytfpifahkpkjfgaa
