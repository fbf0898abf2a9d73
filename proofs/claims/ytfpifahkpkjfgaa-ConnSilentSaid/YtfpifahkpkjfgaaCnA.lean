/- conn: closed, waits, settle. Written by my gencn.py. -/
import Derived.Test.YtfpifahkpkjfgaaCnP
import Derived.Deep.CutBlock
namespace Go.Proofs.Ytfpifahkpkjfgaa
open Go.RowKit Go.Lib
set_option linter.unusedVariables false
set_option linter.unusedSimpArgs false


set_option maxRecDepth 100000 in
set_option maxHeartbeats 8000000 in
theorem closed_any {E : Nat → Prop} {w0 : World} (gc : Nat) (c : KCn) (k : KPt) (y : Int) (m : List Res) (w : World) (hM0 : MemX E w0 w (oqA k.go c.o k.vo :: oqB c.o k.vo :: cnA gc c k :: m)) :
    Calls Try.prog 44 #[.pointer (some ⟨gc, 0, none⟩), .int .i64 y] w fun e w' => e = .returned (.tuple #[]) ∧ MemX E w0 w' (oqA k.go c.o k.vo :: oqB c.o k.vo :: cnA gc (cClosed c y) k :: m) := by
  have hM := hM0
  clear hM0
  go_enter Try.func44, Try.ntmps44
  go_wp2_with (first | go_skip | ((with_reducible refine at_store_ ?_); first | (refine wpList_store1_mem rfl _ _ _ rfl 2 _ _ _ _ _ hM rfl rfl (by first | ((conv => lhs; whnf); done) | ((conv => lhs; whnf); rfl)) (by rfl) (by rfl) (by kernel_rfl) rfl ?_; clear hM; intro W hM; simp only [List.set_cons_succ, List.set_cons_zero, cnA, cn4, cn5, cn7, cn9, cn11, cn12, cn13, cn14, cn16, cn17, cn18, cn19, cn20, cn21, cn22, cn23, cn24, cn25, cn26, cn27, cn28] at hM)))
  go_end0
  exact ⟨rfl, hM⟩
set_option maxRecDepth 100000 in
set_option maxHeartbeats 8000000 in
theorem waits_any {E : Nat → Prop} {w0 : World} (gc : Nat) (c : KCn) (k : KPt) (m : List Res) (w : World) (hM0 : MemX E w0 w (oqA k.go c.o k.vo :: oqB c.o k.vo :: cnA gc c k :: m))(hn : 0 ≤ c.now) (hn2 : c.now ≤ 1099511627776) :
    Calls Try.prog 78 #[.pointer (some ⟨gc, 0, none⟩)] w fun e w' => e = .returned (.tuple #[]) ∧ MemX E w0 w' (oqA k.go c.o k.vo :: oqB c.o k.vo :: cnA gc (cWait c) k :: m) := by
  have hM := hM0
  clear hM0
  go_enter Try.func78, Try.ntmps78
  go_wp2_with (first | go_skip | ((with_reducible refine at_load_ ?_); refine at_wanted_ (by rfl) ?_; first | (refine wpList_loadf_mem (by go_simp) _ _ rfl (by kernel_rfl) 2 _ _ _ _ _ hM rfl rfl rfl ?_)) | ((with_reducible refine at_store_ ?_); first | (refine wpList_store1_mem rfl _ _ _ rfl 2 _ _ _ _ _ hM rfl rfl (by first | ((conv => lhs; whnf); done) | ((conv => lhs; whnf); rfl)) (by rfl) (by rfl) (by kernel_rfl) rfl ?_; clear hM; intro W hM; simp only [List.set_cons_succ, List.set_cons_zero, cnA, cn4, cn5, cn7, cn9, cn11, cn12, cn13, cn14, cn16, cn17, cn18, cn19, cn20, cn21, cn22, cn23, cn24, cn25, cn26, cn27, cn28] at hM)))
  go_end0
  exact ⟨rfl, hM⟩
set_option maxRecDepth 100000 in
set_option maxHeartbeats 8000000 in
theorem settle_any {E : Nat → Prop} {w0 : World} (gc : Nat) (c : KCn) (k : KPt) (m : List Res) (w : World) (hM0 : MemX E w0 w (oqA k.go c.o k.vo :: oqB c.o k.vo :: cnA gc c k :: m)) (ok : OqOk c.o) (hb : c.o.base ≤ 4611686018427387904) :
    Calls Try.prog 43 #[.pointer (some ⟨gc, 0, none⟩)] w fun e w' => e = .returned (.tuple #[]) ∧ MemX E w0 w' (oqA k.go c.o k.vo :: oqB c.o k.vo :: cnA gc (cSettle c) k :: m) := by
  have hM := hM0
  clear hM0
  have HU := Lib.hid (fun (u : Later w) => Una_any k.go c.o k.vo u.now ((hM.at_ 0 rfl).kept u.still))
  have HC := Lib.hid (fun (u : Later w) => Cur_any k.go c.o k.vo u.now ((hM.at_ 0 rfl).kept u.still))
  have HE := Lib.hid (fun (u : Later w) => End_any k.go c.o k.vo u.now ((hM.at_ 0 rfl).kept u.still) ((hM.own 1 rfl).kept u.still) ok.len ok.ba hb)
  have hc := hM.cells 2 rfl
  have hlt := hM.lt 2 rfl
  simp only [cnC] at hc
  go_enter Try.func43, Try.ntmps43
  obtain ⟨wt, hwt⟩ : ∃ z, z = decide (cWaits c) := ⟨_, rfl⟩
  go_upto_region 0 with (fail)
  go_cut [2] (fun v2 W => v2 = .bool wt ∧ MemX E w0 W (oqA k.go c.o k.vo :: oqB c.o k.vo :: cnA gc c k :: m))
  case first =>
    by_cases h1 : c.o.una < c.o.cur
    · have t1 : decide (c.o.una < c.o.cur) = true := by simpa using h1
      have hw : wt = true := by rw [hwt]; exact decide_eq_true (.inl h1)
      subst hw
      clear hwt
      refine wp_region_later (by kernel_rfl) (by kernel_rfl) (fun hlc => ?_)
      repeat (go_big_quiet_step ((first | (go_at_call 63; exact later_same (HU.out _)) | (go_at_call 41; exact later_same (HC.out _)) | (go_at_call 68; exact later_call (HE.out _)))))
      refine wpQuiet_nil ?_
      intro wq hbq
      clear hlc
      clear hc hlt HU HC HE
      replace hM := hM.kept hbq
      (go_wp2_with fail)
      go_meet
      case rel => exact ⟨rfl, hM⟩
    · have t1 : decide (c.o.una < c.o.cur) = false := by simpa using h1
      by_cases h2 : c.wnd = 0
      · have t2 : (c.wnd == 0) = true := by simpa using h2
        by_cases h3 : 0 < c.o.una
        · have t3 : decide (0 < c.o.una) = true := by simpa using h3
          by_cases h4 : c.o.cur < qEnd c.o
          · have t4 : decide (c.o.cur < qEnd c.o) = true := by simpa using h4
            have hw : wt = true := by rw [hwt]; exact decide_eq_true (.inr ⟨h2, h3, h4⟩)
            subst hw
            clear hwt
            refine wp_region_later (by kernel_rfl) (by kernel_rfl) (fun hlc => ?_)
            repeat (go_big_quiet_step ((first | (go_at_call 63; exact later_same (HU.out _)) | (go_at_call 41; exact later_same (HC.out _)) | (go_at_call 68; exact later_call (HE.out _)))))
            refine wpQuiet_nil ?_
            intro wq hbq
            clear hlc
            clear hc hlt HU HC HE
            replace hM := hM.kept hbq
            (go_wp2_with fail)
            go_meet
            case rel => exact ⟨rfl, hM⟩
          · have t4 : decide (c.o.cur < qEnd c.o) = false := by simpa using h4
            have hw : wt = false := by rw [hwt]; exact decide_eq_false (fun h => h.elim h1 (fun h => h4 h.2.2))
            subst hw
            clear hwt
            refine wp_region_later (by kernel_rfl) (by kernel_rfl) (fun hlc => ?_)
            repeat (go_big_quiet_step ((first | (go_at_call 63; exact later_same (HU.out _)) | (go_at_call 41; exact later_same (HC.out _)) | (go_at_call 68; exact later_call (HE.out _)))))
            refine wpQuiet_nil ?_
            intro wq hbq
            clear hlc
            clear hc hlt HU HC HE
            replace hM := hM.kept hbq
            (go_wp2_with fail)
            go_meet
            case rel => exact ⟨rfl, hM⟩
        · have t3 : decide (0 < c.o.una) = false := by simpa using h3
          have hw : wt = false := by rw [hwt]; exact decide_eq_false (fun h => h.elim h1 (fun h => h3 h.2.1))
          subst hw
          clear hwt
          refine wp_region_later (by kernel_rfl) (by kernel_rfl) (fun hlc => ?_)
          repeat (go_big_quiet_step ((first | (go_at_call 63; exact later_same (HU.out _)) | (go_at_call 41; exact later_same (HC.out _)) | (go_at_call 68; exact later_call (HE.out _)))))
          refine wpQuiet_nil ?_
          intro wq hbq
          clear hlc
          clear hc hlt HU HC HE
          replace hM := hM.kept hbq
          (go_wp2_with fail)
          go_meet
          case rel => exact ⟨rfl, hM⟩
      · have t2 : (c.wnd == 0) = false := by simpa using h2
        have hw : wt = false := by rw [hwt]; exact decide_eq_false (fun h => h.elim h1 (fun h => h2 h.1))
        subst hw
        clear hwt
        refine wp_region_later (by kernel_rfl) (by kernel_rfl) (fun hlc => ?_)
        repeat (go_big_quiet_step ((first | (go_at_call 63; exact later_same (HU.out _)) | (go_at_call 41; exact later_same (HC.out _)) | (go_at_call 68; exact later_call (HE.out _)))))
        refine wpQuiet_nil ?_
        intro wq hbq
        clear hlc
        clear hc hlt HU HC HE
        replace hM := hM.kept hbq
        (go_wp2_with fail)
        go_meet
        case rel => exact ⟨rfl, hM⟩
  case rest =>
    clear hc hlt HU HC HE hM
    obtain ⟨rfl, hM⟩ := hcut
    have HSE : cSettle c = if c.st = 0 ∨ c.st = 9 ∨ wt = false then { c with clock := -1 } else if c.clock < 0 then { c with clock := c.now } else c := by
      unfold cSettle
      rw [hwt]
      congr 1
      simp
    clear hwt
    have HS := Lib.hid HSE
    clear HSE
    by_cases hs : c.st = 0 ∨ c.st = 9 ∨ wt = false
    · have HK := Lib.hid (show cSettle c = { c with clock := -1 } from by rw [HS.out, if_pos hs])
      by_cases h0 : c.st = 0
      · have t0 : (c.st == 0) = true := by simpa using h0
        clear hs HS h0
        go_wp2_with (first | go_skip | ((with_reducible refine at_load_ ?_); refine at_wanted_ (by rfl) ?_; first | (refine wpList_loadf_mem (by go_simp) _ _ rfl (by kernel_rfl) 2 _ _ _ _ _ hM rfl rfl rfl ?_)) | ((with_reducible refine at_store_ ?_); first | (refine wpList_store1_mem rfl _ _ _ rfl 2 _ _ _ _ _ hM rfl rfl (by first | ((conv => lhs; whnf); done) | ((conv => lhs; whnf); rfl)) (by rfl) (by rfl) (by kernel_rfl) rfl ?_; clear hM; intro W hM; simp only [List.set_cons_succ, List.set_cons_zero, cnA, cn4, cn5, cn7, cn9, cn11, cn12, cn13, cn14, cn16, cn17, cn18, cn19, cn20, cn21, cn22, cn23, cn24, cn25, cn26, cn27, cn28] at hM)))
        go_end0
        exact ⟨rfl, by rw [HK.out]; exact hM⟩
      · have t0 : (c.st == 0) = false := by simpa using h0
        by_cases h9 : c.st = 9
        · have t9 : (c.st == 9) = true := by simpa using h9
          clear hs HS h0 h9
          go_wp2_with (first | go_skip | ((with_reducible refine at_load_ ?_); refine at_wanted_ (by rfl) ?_; first | (refine wpList_loadf_mem (by go_simp) _ _ rfl (by kernel_rfl) 2 _ _ _ _ _ hM rfl rfl rfl ?_)) | ((with_reducible refine at_store_ ?_); first | (refine wpList_store1_mem rfl _ _ _ rfl 2 _ _ _ _ _ hM rfl rfl (by first | ((conv => lhs; whnf); done) | ((conv => lhs; whnf); rfl)) (by rfl) (by rfl) (by kernel_rfl) rfl ?_; clear hM; intro W hM; simp only [List.set_cons_succ, List.set_cons_zero, cnA, cn4, cn5, cn7, cn9, cn11, cn12, cn13, cn14, cn16, cn17, cn18, cn19, cn20, cn21, cn22, cn23, cn24, cn25, cn26, cn27, cn28] at hM)))
          go_end0
          exact ⟨rfl, by rw [HK.out]; exact hM⟩
        · have t9 : (c.st == 9) = false := by simpa using h9
          have hw : wt = false := hs.elim (fun h => absurd h h0) (fun h => h.elim (fun h => absurd h h9) id)
          subst hw
          clear hs HS h0 h9
          go_wp2_with (first | go_skip | ((with_reducible refine at_load_ ?_); refine at_wanted_ (by rfl) ?_; first | (refine wpList_loadf_mem (by go_simp) _ _ rfl (by kernel_rfl) 2 _ _ _ _ _ hM rfl rfl rfl ?_)) | ((with_reducible refine at_store_ ?_); first | (refine wpList_store1_mem rfl _ _ _ rfl 2 _ _ _ _ _ hM rfl rfl (by first | ((conv => lhs; whnf); done) | ((conv => lhs; whnf); rfl)) (by rfl) (by rfl) (by kernel_rfl) rfl ?_; clear hM; intro W hM; simp only [List.set_cons_succ, List.set_cons_zero, cnA, cn4, cn5, cn7, cn9, cn11, cn12, cn13, cn14, cn16, cn17, cn18, cn19, cn20, cn21, cn22, cn23, cn24, cn25, cn26, cn27, cn28] at hM)))
          go_end0
          exact ⟨rfl, by rw [HK.out]; exact hM⟩
    · have h0 : c.st ≠ 0 := fun h => hs (.inl h)
      have h9 : c.st ≠ 9 := fun h => hs (.inr (.inl h))
      have hw : wt = true := by cases wt with
        | true => rfl
        | false => exact absurd (.inr (.inr rfl)) hs
      subst hw
      have t0 : (c.st == 0) = false := by simpa using h0
      have t9 : (c.st == 9) = false := by simpa using h9
      by_cases hk : c.clock < 0
      · have tk : decide (c.clock < 0) = true := by simpa using hk
        have HK := Lib.hid (show cSettle c = { c with clock := c.now } from by rw [HS.out, if_neg hs, if_pos hk])
        clear hs HS h0 h9 hk
        go_wp2_with (first | go_skip | ((with_reducible refine at_load_ ?_); refine at_wanted_ (by rfl) ?_; first | (refine wpList_loadf_mem (by go_simp) _ _ rfl (by kernel_rfl) 2 _ _ _ _ _ hM rfl rfl rfl ?_)) | ((with_reducible refine at_store_ ?_); first | (refine wpList_store1_mem rfl _ _ _ rfl 2 _ _ _ _ _ hM rfl rfl (by first | ((conv => lhs; whnf); done) | ((conv => lhs; whnf); rfl)) (by rfl) (by rfl) (by kernel_rfl) rfl ?_; clear hM; intro W hM; simp only [List.set_cons_succ, List.set_cons_zero, cnA, cn4, cn5, cn7, cn9, cn11, cn12, cn13, cn14, cn16, cn17, cn18, cn19, cn20, cn21, cn22, cn23, cn24, cn25, cn26, cn27, cn28] at hM)))
        go_end0
        exact ⟨rfl, by rw [HK.out]; exact hM⟩
      · have tk : decide (c.clock < 0) = false := by simpa using hk
        have HK := Lib.hid (show cSettle c = c from by rw [HS.out, if_neg hs, if_neg hk])
        clear hs HS h0 h9 hk
        go_wp2_with (first | go_skip | ((with_reducible refine at_load_ ?_); refine at_wanted_ (by rfl) ?_; first | (refine wpList_loadf_mem (by go_simp) _ _ rfl (by kernel_rfl) 2 _ _ _ _ _ hM rfl rfl rfl ?_)) | ((with_reducible refine at_store_ ?_); first | (refine wpList_store1_mem rfl _ _ _ rfl 2 _ _ _ _ _ hM rfl rfl (by first | ((conv => lhs; whnf); done) | ((conv => lhs; whnf); rfl)) (by rfl) (by rfl) (by kernel_rfl) rfl ?_; clear hM; intro W hM; simp only [List.set_cons_succ, List.set_cons_zero, cnA, cn4, cn5, cn7, cn9, cn11, cn12, cn13, cn14, cn16, cn17, cn18, cn19, cn20, cn21, cn22, cn23, cn24, cn25, cn26, cn27, cn28] at hM)))
        go_end0
        exact ⟨rfl, by rw [HK.out]; exact hM⟩
end Go.Proofs.Ytfpifahkpkjfgaa
