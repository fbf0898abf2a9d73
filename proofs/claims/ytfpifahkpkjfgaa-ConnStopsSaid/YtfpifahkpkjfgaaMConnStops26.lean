/- What ConnStops needs, a part: CnT. -/
import Derived.Deep.CutBlock
import Derived.Test.YtfpifahkpkjfgaaMConnStops25
namespace Go.Proofs.Ytfpifahkpkjfgaa
open Go.RowKit Go.Lib
set_option linter.unusedVariables false
set_option linter.unusedSimpArgs false
set_option maxRecDepth 100000 in
set_option maxHeartbeats 8000000 in
theorem acks_any {E : Nat → Prop} {w0 : World} (gc gi gw : Nat) (q : IQ) (d : KWd) (c : KCn) (k : KPt) (m : List Res) (w : World) (hM0 : MemX E w0 w (oqA k.go c.o k.vo :: oqB c.o k.vo :: cnA gc c k :: tmR k.gt c.tm :: rsR k.vr c.rs :: iqR gi q :: wdR gw d :: m)) (g : KSeg) (at_ : Int) (hh : c.h = some (q, d)) (hw : k.vw = .pointer (some ⟨gw, 0, none⟩)) (hc : COk c) (hs : g.b.size ≤ 140737488351232)
    (hga : 0 ≤ g.ack ∧ g.ack ≤ 4294967295) (hiss : 0 ≤ c.iss ∧ c.iss ≤ 4294967295) (hua : c.o.una ≤ 1152921504606846976) (hsm : 0 ≤ c.same ∧ c.same ≤ 4611686018427387904) (hwh : 0 ≤ c.wh ∧ c.wh ≤ 1099511627776) (hme : -9223372036854775808 ≤ c.meas ∧ c.meas ≤ 9223372036854775807) (hrs : (c.rs.length + 1) * 4 ≤ 140737488355328) :
    Calls Try.prog 79 #[.pointer (some ⟨gc, 0, none⟩), .agg (cSeg g).toArray, .int .i64 at_] w fun e w' => ∃ vo' vr', e = .returned (.bool (cAcks c g at_).2) ∧ MemX E w0 w' (oqA k.go (cAcks c g at_).1.o vo' :: oqB (cAcks c g at_).1.o vo' :: cnA gc (cAcks c g at_).1 { k with vr := vr' } :: tmR k.gt (cAcks c g at_).1.tm :: rsR vr' (cAcks c g at_).1.rs :: iqR gi q :: wdR gw (cW (cAcks c g at_).1) :: m) := by
  have hM := hM0
  clear hM0
  have hcu := hc.cur
  have HC := Lib.hid hc
  obtain ⟨a, ha⟩ : ∃ z, z = cAckAt c g := ⟨_, rfl⟩
  have hab : -2147483648 ≤ a ∧ a ≤ 1152921508901814272 := by
    rw [ha]; unfold cAckAt nearZ
    have := dZ_lo (u32 (g.ack - c.iss)) (c.o.una % 4294967296)
    have := dZ_hi (u32 (g.ack - c.iss)) (c.o.una % 4294967296)
    omega
  have HA := Lib.hid ha
  obtain ⟨n, hn⟩ : ∃ z, z = (g.ack - c.iss) % 4294967296 := ⟨_, rfl⟩
  have hn1 : 0 ≤ n ∧ n ≤ 4294967295 := by rw [hn]; omega
  have HN0 := Lib.hid hn
  have hnr : nearZ n c.o.una = a := by rw [hn, ha]; rfl
  have HNR := Lib.hid (fun (W : World) => Near_any n c.o.una W hn1.1 hn1.2 hcu.1 hua)
  rw [hnr] at HNR
  rw [hn] at HNR
  have HLN := Lib.hid (fun (W : World) => tcLength_any g W hs)
  obtain ⟨ga, hga0⟩ : ∃ z, z = g.ack := ⟨_, rfl⟩
  have HIS := Lib.hid hiss
  have HSM := Lib.hid hsm
  have HWH := Lib.hid hwh
  have HME := Lib.hid hme
  have HRS := Lib.hid hrs
  have HHH := Lib.hid hh
  have HCW := Lib.hid (show cW c = d from by unfold cW; rw [hh])
  have HWW := Lib.hid hw
  have HCU := Lib.hid hcu
  have HAB := Lib.hid hab
  clear hc ha hn hn1 hnr hiss hua hsm hwh hme hrs hh hw hga hs hcu hab hga0
  go_enter Try.func79, Try.ntmps79
  go_upto_region 1 with (first | go_skip | ((with_reducible refine at_box_ ?_); refine wpList_box_mem rfl _ _ rfl (cSeg g) rfl hM ?_; clear hM; intro gb W hM; replace hM := cn_in7 hM))
  have hcc := hM.cells 2 rfl
  have hlt := hM.lt 2 rfl
  have hcs := hM.cells 7 rfl
  have hlt2 := hM.lt 7 rfl
  simp only [cnC] at hcc
  simp only [cSeg] at hcs
  have HU := Lib.hid (fun (u : Later W) => Una_any k.go c.o k.vo u.now ((hM.at_ 0 rfl).kept u.still))
  have HNU := Lib.hid (fun (u : Later W) => HNR.out u.now)
  refine wp_region_later (by kernel_rfl) (by kernel_rfl) (fun hlc => ?_)
  repeat (go_big_quiet_step ((first | (go_at_call 63; exact later_same (HU.out _)) | (go_at_call 75; exact later_same (HNU.out _)))))
  refine wpQuiet_nil ?_
  intro wq hbq
  clear hlc
  clear hcc hlt hcs hlt2 HU HNU
  replace hM := hM.kept hbq
  clear hbq HNR
  go_upto_if 27 with (first | go_skip | ((with_reducible refine at_load_ ?_); refine at_wanted_ (by rfl) ?_; first | (refine lM 2 hM rfl rfl rfl rfl ?_)))
  by_cases hret : c.st = 2 ∧ (a < 1 ∨ c.o.sent < a)
  · have HE := Lib.hid (show cAcks c g at_ = ({ c with rs := c.rs ++ [g.ack] }, false) from by unfold cAcks; rw [if_pos hret.1, ← HA.out, if_pos hret.2])
    have t2 : (c.st == 2) = true := by simpa using hret.1
    by_cases h1 : a < 1
    · have t1 : decide (a < 1) = true := decide_eq_true h1
      clear hret h1
      go_upto_region 4 with (first | go_skip | ((with_reducible refine at_load_ ?_); refine at_wanted_ (by rfl) ?_; first | (refine lM 2 hM rfl rfl rfl rfl ?_)))
      refine wp_region_M [2,7] [11] hM (by kernel_rfl) ?_
      clear hM
      intro wo hM
      refine tW 0 rfl ?_
      simp only [zz]
      refine tW 1 rfl ?_
      simp only [zz]
      refine tW 2 rfl ?_
      simp only [zz]
      refine tW 3 rfl ?_
      simp only [zz]
      refine tL 4 (v := ?_) rfl ⟨fun r hr => (by first | exact hM.get 2 hr | exact hM.get 3 hr), fun r hr => (by first | exact hM.get 7 hr | exact hM.get 8 hr), trivial⟩ (Or.inl ⟨by rfl, ?hy⟩) ?_
      case hy => (rintro W ⟨i2, i7, -⟩; have c2 := (show At W _ _ _ from i2 _ rfl).cell; have c7 := (show At W _ _ _ from i7 _ rfl).cell; (try simp only [cnC,cSeg] at c2 c7); go_simp; (try with_reducible rfl))
      simp only [zz]
      refine tW 5 rfl ?_
      simp only [zz]
      refine tL 6 (v := ?_) rfl ⟨fun r hr => (by first | exact hM.get 2 hr | exact hM.get 3 hr), fun r hr => (by first | exact hM.get 7 hr | exact hM.get 8 hr), trivial⟩ (Or.inl ⟨by rfl, ?hy⟩) ?_
      case hy => (rintro W ⟨i2, i7, -⟩; have c2 := (show At W _ _ _ from i2 _ rfl).cell; have c7 := (show At W _ _ _ from i7 _ rfl).cell; (try simp only [cnC,cSeg] at c2 c7); go_simp; (try with_reducible rfl))
      simp only [zz]
      refine wpI_one (i := 7) rfl (by kernel_rfl) ?_
      (try simp only [zz])
      go_wp2_with (first
          | go_skip
          | (((with_reducible refine at_bslice_ ?_); refine wpList_bslice_mem rfl _ 22 _ rfl Try.underlying83 _ zv_u32 [.int .u32 g.ack] rfl rfl sz_u32 (Nat.le_of_ble_eq_true rfl) (Nat.le_of_ble_eq_true rfl) hM ?_; clear hM; intro g5 W hM; replace hM := cn_last hM)))
      refine contI_normal ⟨fun r hr => (by first | exact hM.get 2 hr | exact hM.get 3 hr), fun r hr => (by first | exact hM.get 7 hr | exact hM.get 8 hr), trivial⟩ ?_
      (try simp only [zz])
      refine wpI_one (i := 8) rfl (by kernel_rfl) ?_
      (try simp only [zz])
      go_wp2_with (first
          | go_skip
          | (((with_reducible refine at_append_ ?_); refine wpList_append_row (f := fU32) (size := 1) rfl _ _ _ 22 rfl Try.underlying83 4 elem_u32 (by decide) 5 0 _ _ c.rs g.ack hM rfl rfl rfl 1 rfl rfl (one_u32 _) HRS.out (by simp only [maxLen]; have := HRS.out; omega) ?_; clear hM; intro vN W hM; simp only [zF, zE] at hM; obtain ⟨An, qn, hvn⟩ := (hM.row (f := fU32) (size := 1) (rs := c.rs ++ [g.ack]) 5 rfl).form; obtain ⟨nN, hnN⟩ : ∃ z, z = (c.rs ++ [g.ack]).length := ⟨_, rfl⟩; rw [← hnN] at hvn; clear hnN; subst hvn)))
      refine contI_normal ⟨fun r hr => (by first | exact hM.get 2 hr | exact hM.get 3 hr), fun r hr => (by first | exact hM.get 7 hr | exact hM.get 8 hr), trivial⟩ ?_
      (try simp only [zz])
      refine tW 9 rfl ?_
      simp only [zz]
      refine tW 10 rfl ?_
      simp only [zz]
      refine wpI_one (i := 11) rfl (by kernel_rfl) ?_
      (try simp only [zz])
      go_wp2_with (first
          | go_skip
          | (((with_reducible refine at_store_ ?_); first | (refine sM 3 hM rfl rfl rfl ?_; clear hM; intro W hM; simp only [zF, zE, cnA, cn4, cn5, cn7, cn9, cn11, cn12, cn13, cn14, cn16, cn17, cn18, cn19, cn20, cn21, cn22, cn23, cn24, cn25, cn26, cn27, cn28] at hM))))
      refine contI_late (by decide) ?_
      (try simp only [zz])
      refine wpI_done (by kernel_rfl) ?_ _
      (try simp only [zz])
      have hM2 := (show MemX E w0 W ([_] ++ (oqA k.go c.o k.vo :: oqB c.o k.vo :: cnA gc { c with rs := c.rs ++ [g.ack] } { k with vr := .slice An nN qn } :: tmR k.gt c.tm :: rsR (.slice An nN qn) (c.rs ++ [g.ack]) :: iqR gi q :: wdR gw d :: atR gb 33 (cSeg g) :: m)) from hM).drop_
      have hM3 := cn_out7 hM2
      clear hM hM2
      go_wp2_with fail
      refine bodyPost_ret (v := .bool false) (by simp [results, Try.results79, go_sem]) rfl ?_
      exact ⟨_, _, by rw [HE.out], by rw [HE.out, show cW { c with rs := c.rs ++ [g.ack] } = d from HCW.out]; exact hM3⟩
    · have t1 : decide (a < 1) = false := decide_eq_false h1
      have ts : decide (c.o.sent < a) = true := decide_eq_true (hret.2.resolve_left h1)
      clear hret h1
      go_upto_region 4 with (first | go_skip | ((with_reducible refine at_load_ ?_); refine at_wanted_ (by rfl) ?_; first | (refine lM 2 hM rfl rfl rfl rfl ?_)) | go_upto_region 4 with (first | go_skip | ((with_reducible refine at_load_ ?_); refine at_wanted_ (by rfl) ?_; first | (refine lM 2 hM rfl rfl rfl rfl ?_)) | (go_at_call 39; refine (Sent_any k.go c.o k.vo _ (hM.at_ 0 rfl)).mono ?_; rintro e W ⟨rfl, rfl⟩; dsimp only)))
      refine wp_region_M [2,7] [11] hM (by kernel_rfl) ?_
      clear hM
      intro wo hM
      refine tW 0 rfl ?_
      simp only [zz]
      refine tW 1 rfl ?_
      simp only [zz]
      refine tW 2 rfl ?_
      simp only [zz]
      refine tW 3 rfl ?_
      simp only [zz]
      refine tL 4 (v := ?_) rfl ⟨fun r hr => (by first | exact hM.get 2 hr | exact hM.get 3 hr), fun r hr => (by first | exact hM.get 7 hr | exact hM.get 8 hr), trivial⟩ (Or.inl ⟨by rfl, ?hy⟩) ?_
      case hy => (rintro W ⟨i2, i7, -⟩; have c2 := (show At W _ _ _ from i2 _ rfl).cell; have c7 := (show At W _ _ _ from i7 _ rfl).cell; (try simp only [cnC,cSeg] at c2 c7); go_simp; (try with_reducible rfl))
      simp only [zz]
      refine tW 5 rfl ?_
      simp only [zz]
      refine tL 6 (v := ?_) rfl ⟨fun r hr => (by first | exact hM.get 2 hr | exact hM.get 3 hr), fun r hr => (by first | exact hM.get 7 hr | exact hM.get 8 hr), trivial⟩ (Or.inl ⟨by rfl, ?hy⟩) ?_
      case hy => (rintro W ⟨i2, i7, -⟩; have c2 := (show At W _ _ _ from i2 _ rfl).cell; have c7 := (show At W _ _ _ from i7 _ rfl).cell; (try simp only [cnC,cSeg] at c2 c7); go_simp; (try with_reducible rfl))
      simp only [zz]
      refine wpI_one (i := 7) rfl (by kernel_rfl) ?_
      (try simp only [zz])
      go_wp2_with (first
          | go_skip
          | (((with_reducible refine at_bslice_ ?_); refine wpList_bslice_mem rfl _ 22 _ rfl Try.underlying83 _ zv_u32 [.int .u32 g.ack] rfl rfl sz_u32 (Nat.le_of_ble_eq_true rfl) (Nat.le_of_ble_eq_true rfl) hM ?_; clear hM; intro g5 W hM; replace hM := cn_last hM)))
      refine contI_normal ⟨fun r hr => (by first | exact hM.get 2 hr | exact hM.get 3 hr), fun r hr => (by first | exact hM.get 7 hr | exact hM.get 8 hr), trivial⟩ ?_
      (try simp only [zz])
      refine wpI_one (i := 8) rfl (by kernel_rfl) ?_
      (try simp only [zz])
      go_wp2_with (first
          | go_skip
          | (((with_reducible refine at_append_ ?_); refine wpList_append_row (f := fU32) (size := 1) rfl _ _ _ 22 rfl Try.underlying83 4 elem_u32 (by decide) 5 0 _ _ c.rs g.ack hM rfl rfl rfl 1 rfl rfl (one_u32 _) HRS.out (by simp only [maxLen]; have := HRS.out; omega) ?_; clear hM; intro vN W hM; simp only [zF, zE] at hM; obtain ⟨An, qn, hvn⟩ := (hM.row (f := fU32) (size := 1) (rs := c.rs ++ [g.ack]) 5 rfl).form; obtain ⟨nN, hnN⟩ : ∃ z, z = (c.rs ++ [g.ack]).length := ⟨_, rfl⟩; rw [← hnN] at hvn; clear hnN; subst hvn)))
      refine contI_normal ⟨fun r hr => (by first | exact hM.get 2 hr | exact hM.get 3 hr), fun r hr => (by first | exact hM.get 7 hr | exact hM.get 8 hr), trivial⟩ ?_
      (try simp only [zz])
      refine tW 9 rfl ?_
      simp only [zz]
      refine tW 10 rfl ?_
      simp only [zz]
      refine wpI_one (i := 11) rfl (by kernel_rfl) ?_
      (try simp only [zz])
      go_wp2_with (first
          | go_skip
          | (((with_reducible refine at_store_ ?_); first | (refine sM 3 hM rfl rfl rfl ?_; clear hM; intro W hM; simp only [zF, zE, cnA, cn4, cn5, cn7, cn9, cn11, cn12, cn13, cn14, cn16, cn17, cn18, cn19, cn20, cn21, cn22, cn23, cn24, cn25, cn26, cn27, cn28] at hM))))
      refine contI_late (by decide) ?_
      (try simp only [zz])
      refine wpI_done (by kernel_rfl) ?_ _
      (try simp only [zz])
      have hM2 := (show MemX E w0 W ([_] ++ (oqA k.go c.o k.vo :: oqB c.o k.vo :: cnA gc { c with rs := c.rs ++ [g.ack] } { k with vr := .slice An nN qn } :: tmR k.gt c.tm :: rsR (.slice An nN qn) (c.rs ++ [g.ack]) :: iqR gi q :: wdR gw d :: atR gb 33 (cSeg g) :: m)) from hM).drop_
      have hM3 := cn_out7 hM2
      clear hM hM2
      go_wp2_with fail
      refine bodyPost_ret (v := .bool false) (by simp [results, Try.results79, go_sem]) rfl ?_
      exact ⟨_, _, by rw [HE.out], by rw [HE.out, show cW { c with rs := c.rs ++ [g.ack] } = d from HCW.out]; exact hM3⟩
  · obtain ⟨s1, hs1⟩ : ∃ z, z = if c.st = 2 then (if c.shut then (4 : Int) else 3) else c.st := ⟨_, rfl⟩
    have HE := Lib.hid (show cAcks c g at_ = cAcks2 { c with st := s1 } g at_ a from by
      unfold cAcks
      by_cases h2 : c.st = 2
      · rw [if_pos h2, ← HA.out, if_neg (fun h => hret ⟨h2, h⟩), hs1, if_pos h2]
      · rw [if_neg h2, ← HA.out, hs1, if_neg h2])
    have HS1 := Lib.hid hs1
    have HRT := Lib.hid hret
    clear hs1 hret
    go_cut [6] (fun v6 W => v6 = .bool false ∧ MemX E w0 W (oqA k.go c.o k.vo :: oqB c.o k.vo :: cnA gc { c with st := s1 } k :: tmR k.gt c.tm :: rsR k.vr c.rs :: iqR gi q :: wdR gw d :: atR gb 33 (cSeg g) :: m))
    case first =>
      by_cases h2 : c.st = 2
      · have t2 : (c.st == 2) = true := by simpa using h2
        have t1 : decide (a < 1) = false := decide_eq_false (fun h => HRT.out ⟨h2, .inl h⟩)
        have ts : decide (c.o.sent < a) = false := decide_eq_false (fun h => HRT.out ⟨h2, .inr h⟩)
        have HS2 := Lib.hid (show s1 = if c.shut then (4 : Int) else 3 from by rw [HS1.out, if_pos h2])
        clear HS1 HRT h2
        go_upto_region 7 with (first | go_skip | ((with_reducible refine at_load_ ?_); refine at_wanted_ (by rfl) ?_; first | (refine lM 2 hM rfl rfl rfl rfl ?_)) | ((with_reducible refine at_store_ ?_); first | (refine sM 2 hM rfl rfl rfl ?_; clear hM; intro W hM; simp only [zF, zE, cnA, cn4, cn5, cn7, cn9, cn11, cn12, cn13, cn14, cn16, cn17, cn18, cn19, cn20, cn21, cn22, cn23, cn24, cn25, cn26, cn27, cn28] at hM)) | (go_at_call 39; refine (Sent_any k.go c.o k.vo _ (hM.at_ 0 rfl)).mono ?_; rintro e W ⟨rfl, rfl⟩; dsimp only))
        cases hsh : c.shut with
        | true =>
          have csh : W.cell? ⟨gc, 25, none⟩ = some (.bool true) := by rw [← hsh]; exact hM.cells 2 rfl 25
          have HS3 := Lib.hid (show s1 = 4 from by rw [HS2.out, hsh]; rfl)
          go_wp2_with (first | go_skip | ((with_reducible refine at_store_ ?_); first | (refine sM 2 hM rfl rfl rfl ?_; clear hM; intro W hM; simp only [zF, zE, cnA, cn4, cn5, cn7, cn9, cn11, cn12, cn13, cn14, cn16, cn17, cn18, cn19, cn20, cn21, cn22, cn23, cn24, cn25, cn26, cn27, cn28] at hM)))
          go_meet
          case rel => exact ⟨rfl, by rw [HS3.out]; exact hM⟩
        | false =>
          have csh : W.cell? ⟨gc, 25, none⟩ = some (.bool false) := by rw [← hsh]; exact hM.cells 2 rfl 25
          have HS3 := Lib.hid (show s1 = 3 from by rw [HS2.out, hsh]; rfl)
          go_wp2_with fail
          go_meet
          case rel => exact ⟨rfl, by rw [HS3.out]; exact hM⟩
      · have t2 : (c.st == 2) = false := by simpa using h2
        have HS2 := Lib.hid (show s1 = c.st from by rw [HS1.out, if_neg h2])
        clear HS1 HRT h2
        go_wp2_with fail
        go_meet
        case rel => exact ⟨rfl, by rw [HS2.out]; exact hM⟩
    case rest =>
      clear hM
      obtain ⟨rfl, hM⟩ := hcut
      obtain ⟨ka, hka⟩ : ∃ z : KCn, z = { c with st := s1 } := ⟨_, rfl⟩
      have hM1 : MemX E w0 wc (oqA k.go ka.o k.vo :: oqB ka.o k.vo :: cnA gc ka k :: tmR k.gt ka.tm :: rsR k.vr ka.rs :: iqR gi q :: wdR gw d :: atR gb 33 (cSeg g) :: m) := by rw [hka]; exact hM
      rw [← hka] at HE
      have HKA := Lib.hid (show COk ka from by rw [hka]; have h := HC.out; exact ⟨h.ok, h.hb, h.ht, h.g1, h.g2, h.n1, h.n2, h.k1, h.k2, h.w1, h.w2, h.m1, h.m2, h.hn, h.hs⟩)
      have HCU1 := Lib.hid (show 0 ≤ ka.o.una ∧ ka.o.una ≤ ka.o.cur ∧ ka.o.cur ≤ ka.o.sent ∧ ka.o.sent ≤ 1152921504606850000 from HKA.out.cur)
      have HX1 := Lib.hid (show ka.h = some (q, d) ∧ ka.same = c.same ∧ ka.wh = c.wh ∧ ka.meas = c.meas ∧ ka.rs = c.rs from by rw [hka]; exact ⟨HHH.out, rfl, rfl, rfl, rfl⟩)
      have HCW1 := Lib.hid (show cW ka = d from by unfold cW; rw [HX1.out.1])
      clear hM hka HC HCU HS1 HRT HCW
      have hM := hM1
      clear hM1
      apply apK
      · assumption
      go_upto_if 66 with (first | go_skip | ((with_reducible refine at_load_ ?_); refine at_wanted_ (by rfl) ?_; first | (refine lM 2 hM rfl rfl rfl rfl ?_)) | (go_at_call 39; refine (Sent_any k.go ka.o k.vo _ (hM.at_ 0 rfl)).mono ?_; rintro e W ⟨rfl, rfl⟩; dsimp only))
      by_cases hs : ka.o.sent < a
      · have ts : decide (ka.o.sent < a) = true := decide_eq_true hs
        have HE2 := Lib.hid (show cAcks c g at_ = ({ ka with owed := true }, false) from by rw [HE.out]; unfold cAcks2; rw [if_pos hs])
        go_wp2_with (first | go_skip | ((with_reducible refine at_store_ ?_); first | (refine sM 2 hM rfl rfl rfl ?_; clear hM; intro W hM; simp only [zF, zE, cnA, cn4, cn5, cn7, cn9, cn11, cn12, cn13, cn14, cn16, cn17, cn18, cn19, cn20, cn21, cn22, cn23, cn24, cn25, cn26, cn27, cn28] at hM)))
        refine bodyPost_ret (v := .bool false) (by simp [results, Try.results79, go_sem]) rfl ?_
        have hM3 := cn_out7 hM
        exact ⟨_, _, by rw [HE2.out], by rw [HE2.out, show cW { ka with owed := true } = d from HCW1.out]; exact hM3⟩
      · have ts : decide (ka.o.sent < a) = false := decide_eq_false hs
        have HSA := Lib.hid hs
        go_upto_if 78 with (first | go_skip | ((with_reducible refine at_load_ ?_); refine at_wanted_ (by rfl) ?_; first | (refine lM 2 hM rfl rfl rfl rfl ?_)) | (go_at_call 63; refine (Una_any k.go ka.o k.vo _ (hM.at_ 0 rfl)).mono ?_; rintro e W ⟨rfl, rfl⟩; dsimp only))
        obtain ⟨kb, hkb⟩ : ∃ z : KCn, z = if ka.o.una < a then cAckd ka a else if a = ka.o.una ∧ sgLen g = 0 ∧ ka.o.una < ka.o.cur ∧ g.win = ka.wnd then cSame ka g else ka := ⟨_, rfl⟩
        have HKB := Lib.hid hkb
        have HOB := Lib.hid (kb_o HKA.out.ok HKA.out.hb hkb)
        obtain ⟨gr, hgr⟩ : ∃ z, z = decide (ka.o.una < a) := ⟨_, rfl⟩
        rw [← hgr]
        have HG := Lib.hid hgr
        clear hkb hgr hs
        refine ak78 E w0 gc gi gw gb q d ka kb k m wc g a (sgLen g) gr _ _ hM HG HKB HKA HCU1 HX1.out.1 HWW.out (Lib.hid rfl) HLN (Lib.hid ⟨by have := HAB.out; omega, by have := HAB.out; omega⟩) (Lib.hid (by rw [HX1.out.2.2.1]; exact HWH.out)) (Lib.hid (by rw [HX1.out.2.2.2.1]; exact HME.out)) (Lib.hid (by rw [HX1.out.2.1]; exact HSM.out)) (Lib.hid (by intro _ d _ _ _ h; cases d <;> exact h)) ?_
        intro v79 v80 v81 v82 v83 v84 v85 v86 v87 v88 v89 v90 v91 v92 v93 v94 v95 v96 v97 v98 v99 v100 v101 v102 v103 v104 v105 v106 v107 v108 v109 v110 v111 v112 v113 v114 v115 v116 v117 v118 v119 v120 v121 v122 v123 v124 v125 v126 v127 v128 v129 v130 v131 v132 v133 v134 v135 v136 v137 W hrel
        obtain ⟨v2, hM2⟩ := hrel
        clear hM HX1 HCW1 HLN
        have hM := hM2
        clear hM2
        apply apK
        · assumption
        exact ak21 E w0 gc gi gw gb q ka kb k m W g at_ a gr v2 (cAcks c g at_) _ hM HG HKB HKA HOB HSA HE (by intro W hrel; obtain ⟨v1, vr1, hM⟩ := hrel; exact ⟨v1, vr1, rfl, hM⟩)
end Go.Proofs.Ytfpifahkpkjfgaa
