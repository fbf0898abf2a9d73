/- What ConnStops needs, a part: CnVa, CnW. -/
import Derived.Deep.CutBlock
import Derived.Test.YtfpifahkpkjfgaaMConnStops28
namespace Go.Proofs.Ytfpifahkpkjfgaa
open Go.RowKit Go.Lib
set_option linter.unusedVariables false
set_option linter.unusedSimpArgs false
set_option linter.unusedSectionVars false
set_option maxRecDepth 100000
theorem fi_none {E : Nat → Prop} {w0 W : World} {gc : Nat} {k : KPt} {m : List Res} {c c' : KCn} (h0 : c'.h = none) (h1 : c'.o = c.o) (h2 : c'.tm = c.tm) (hi : k.vi = .pointer none) (hw : k.vw = .pointer none)
  (hM : MemX E w0 W (oqA k.go c.o k.vo :: oqB c.o k.vo :: cnA gc c' k :: tmR k.gt c.tm :: rsR k.vr c'.rs :: m)) : MemX E w0 W (cnL gc 0 0 c' k m) ∧ KOk k 0 0 c'.h := by
 refine ⟨?_, by rw [h0]; exact ⟨hi, hw⟩⟩
 unfold cnL hL
 rw [h0, h1, h2]; exact hM
theorem fi_some {E : Nat → Prop} {w0 W : World} {gc gi gw : Nat} {k : KPt} {vo : Value} {m : List Res} {q : IQ} {d : KWd} {c' : KCn} (h0 : c'.h = some (q, d))
  (hM : MemX E w0 W (oqA k.go c'.o vo :: oqB c'.o vo :: cnA gc c' { k with vi := .pointer (some ⟨gi, 0, none⟩), vw := .pointer (some ⟨gw, 0, none⟩) } :: tmR k.gt c'.tm :: rsR k.vr c'.rs :: iqR gi q :: wdR gw d :: m)) :
  MemX E w0 W (cnL gc gi gw c' { k with vo := vo, vi := .pointer (some ⟨gi, 0, none⟩), vw := .pointer (some ⟨gw, 0, none⟩) } m) ∧ KOk { k with vo := vo, vi := .pointer (some ⟨gi, 0, none⟩), vw := .pointer (some ⟨gw, 0, none⟩) } gi gw c'.h := by
 refine ⟨?_, by rw [h0]; exact ⟨rfl, rfl⟩⟩
 unfold cnL hL
 rw [h0]; exact hM
set_option maxRecDepth 100000 in
set_option maxHeartbeats 8000000 in
theorem first_any {E : Nat → Prop} {w0 : World} (gc : Nat) (c : KCn) (k : KPt) (m : List Res) (w : World) (hM0 : MemX E w0 w (oqA k.go c.o k.vo :: oqB c.o k.vo :: cnA gc c k :: tmR k.gt c.tm :: rsR k.vr c.rs :: m)) (g : KSeg) (hh : c.h = none) (hi : k.vi = .pointer none) (hw : k.vw = .pointer none) (ho : 8 ≤ c.own ∧ c.own ≤ 1000) (hc : COk c)
    (hga : 0 ≤ g.ack ∧ g.ack ≤ 4294967295) (hiss : 0 ≤ c.iss ∧ c.iss ≤ 4294967295) (hwh : 0 ≤ c.wh ∧ c.wh ≤ 1099511627776) (hme : -9223372036854775808 ≤ c.meas ∧ c.meas ≤ 9223372036854775807) (hrs : (c.rs.length + 1) * 4 ≤ 140737488355328) :
    Calls Try.prog 48 #[.pointer (some ⟨gc, 0, none⟩), .agg (cSeg g).toArray] w fun e w' => ∃ gi gw k', e = .returned (.tuple #[]) ∧ MemX E w0 w' (cnL gc gi gw (cFirst c g) k' m) ∧ KOk k' gi gw (cFirst c g).h := by
  have hM := hM0
  clear hM0
  have HSY := Lib.hid (fun (W : World) (M : List Res) h => syn_any (E := E) (w0 := w0) gc c k M W h g ho)
  have HX := Lib.hid (show _ ∧ _ ∧ _ ∧ _ ∧ _ ∧ _ ∧ _ ∧ _ ∧ _ from ⟨hh, hi, hw, hc, hga, hwh, hme, hrs, ho⟩)
  have HRS := Lib.hid hrs
  have HHN := Lib.hid hh
  have HI := Lib.hid hi
  have HW := Lib.hid hw
  obtain ⟨b1, hb1⟩ : ∃ z, z = decide (g.has = true ∧ (g.ack ≠ u32 (c.iss + 1) ∨ c.o.sent = 0)) := ⟨_, rfl⟩
  have HB1 := Lib.hid hb1
  have HCL := Lib.hid (fun (W : World) (y : Int) (M : List Res) h => closed_any (E := E) (w0 := w0) gc c k y M W h)
  have HBK := Lib.hid (fun (W : World) h => Back_any k.go c.o k.vo W h)
  have hck := hc.ok
  have HAK := Lib.hid (fun (W : World) (gi gw : Nat) (M : List Res) h => ackd_any (E := E) (w0 := w0) gc gi gw newIQ ⟨cMss c.own g.mss, 2 * cMss c.own g.mss, 65535⟩ (cSyn c g) { k with vi := .pointer (some ⟨gi, 0, none⟩), vw := .pointer (some ⟨gw, 0, none⟩) } M W h 1 hc.ok (by have := hc.hb; show c.o.base ≤ _; omega) hc.ht (by have := cMss_bd g.mss ho; simp only [WindowOk]; omega) rfl (by decide) ⟨hc.n1, hc.n2⟩ hwh hme)
  clear hb1 hh hi hw ho hc hga hwh hme hrs hck
  go_enter Try.func48, Try.ntmps48
  go_upto_region 1 with (first | go_skip | ((with_reducible refine at_box_ ?_); refine wpList_box_mem rfl _ _ rfl (cSeg g) rfl hM ?_; clear hM; intro gb W hM; replace hM := cn_in5 hM))
  go_frame
  go_upto_region 1 with (fail)
  go_cut [4] (fun v W => v = .bool b1 ∧ MemX E w0 W (oqA k.go c.o k.vo :: oqB c.o k.vo :: cnA gc c k :: tmR k.gt c.tm :: rsR k.vr c.rs :: atR gb 33 (cSeg g) :: m))
  case first =>
    have hcc := hM.cells 2 rfl
    have hlt := hM.lt 2 rfl
    have hcs := hM.cells 5 rfl
    have hlt2 := hM.lt 5 rfl
    simp only [cnC] at hcc
    have HS := Lib.hid (fun (u : Later W) => Sent_any k.go c.o k.vo u.now ((hM.at_ 0 rfl).kept u.still))
    cases hha : g.has with
    | false =>
      simp only [cSeg, hha] at hcs
      obtain rfl : b1 = false := by rw [HB1.out]; exact decide_eq_false (fun h => by rw [hha] at h; exact absurd h.1 (by decide))
      clear HB1 hha
      refine wp_region_later (by kernel_rfl) (by kernel_rfl) (fun hlc => ?_)
      repeat (go_big_quiet_step ((first | (go_at_call 39; exact later_same (HS.out _)))))
      refine wpQuiet_nil ?_
      intro wq hbq
      clear hlc
      clear hcc hlt hcs hlt2 HS
      replace hM := hM.kept hbq
      (go_wp2_with fail)
      go_meet
      case rel => exact ⟨rfl, hM⟩
    | true =>
      simp only [cSeg, hha] at hcs
      by_cases h1 : g.ack = u32 (c.iss + 1)
      · have t1 : (g.ack != (c.iss + 1) % 4294967296) = false := by simpa [u32] using h1
        by_cases h2 : c.o.sent = 0
        · have t2 : (c.o.sent == 0) = true := by simpa using h2
          obtain rfl : b1 = true := by rw [HB1.out]; exact decide_eq_true ⟨hha, .inr h2⟩
          clear HB1 hha h1 h2
          refine wp_region_later (by kernel_rfl) (by kernel_rfl) (fun hlc => ?_)
          repeat (go_big_quiet_step ((first | (go_at_call 39; exact later_same (HS.out _)))))
          refine wpQuiet_nil ?_
          intro wq hbq
          clear hlc
          clear hcc hlt hcs hlt2 HS
          replace hM := hM.kept hbq
          (go_wp2_with fail)
          go_meet
          case rel => exact ⟨rfl, hM⟩
        · have t2 : (c.o.sent == 0) = false := by simpa using h2
          obtain rfl : b1 = false := by rw [HB1.out]; exact decide_eq_false (fun h => h.2.elim (fun h => h h1) h2)
          clear HB1 hha h1 h2
          refine wp_region_later (by kernel_rfl) (by kernel_rfl) (fun hlc => ?_)
          repeat (go_big_quiet_step ((first | (go_at_call 39; exact later_same (HS.out _)))))
          refine wpQuiet_nil ?_
          intro wq hbq
          clear hlc
          clear hcc hlt hcs hlt2 HS
          replace hM := hM.kept hbq
          (go_wp2_with fail)
          go_meet
          case rel => exact ⟨rfl, hM⟩
      · have t1 : (g.ack != (c.iss + 1) % 4294967296) = true := by simpa [u32] using h1
        obtain rfl : b1 = true := by rw [HB1.out]; exact decide_eq_true ⟨hha, .inl h1⟩
        clear HB1 hha h1
        refine wp_region_later (by kernel_rfl) (by kernel_rfl) (fun hlc => ?_)
        repeat (go_big_quiet_step ((first | (go_at_call 39; exact later_same (HS.out _)))))
        refine wpQuiet_nil ?_
        intro wq hbq
        clear hlc
        clear hcc hlt hcs hlt2 HS
        replace hM := hM.kept hbq
        (go_wp2_with fail)
        go_meet
        case rel => exact ⟨rfl, hM⟩
  case rest =>
    clear hM
    obtain ⟨rfl, hM⟩ := hcut
    cases b1 with
    | true =>
      have hb := of_decide_eq_true HB1.out.symm
      have HCF := Lib.hid (show cFirst c g = (if g.rst then c else { c with rs := c.rs ++ [g.ack] }) from by unfold cFirst; rw [if_pos hb])
      clear hb
      cases hr : g.rst with
      | true =>
        have HF9 := Lib.hid (show (cSeg g)[9]? = some (.bool true) from by rw [← hr]; rfl)
        have HE := Lib.hid (show cFirst c g = c from by rw [HCF.out, if_pos hr])
        go_wp2_with (first | go_skip | (first | ((with_reducible refine at_load_ ?_); refine at_wanted_ (by rfl) ?_; refine lM 5 hM rfl rfl rfl (by first | exact HF9.out | exact HF7.out | exact HF6.out | rfl) ?_) | ((with_reducible refine at_load_ ?_); refine at_wanted_ (by rfl) ?_; refine lM 2 hM rfl rfl rfl (by first  | rfl) ?_)))
        go_end0
        refine ⟨rfl, 0, 0, k, ?_⟩
        rw [HE.out]
        exact fi_none HHN.out rfl rfl HI.out HW.out (cn_out5 hM)
      | false =>
        have HF9 := Lib.hid (show (cSeg g)[9]? = some (.bool false) from by rw [← hr]; rfl)
        have HE := Lib.hid (show cFirst c g = { c with rs := c.rs ++ [g.ack] } from by rw [HCF.out, if_neg (by rw [hr]; decide)])
        go_upto_region 3 with (first | go_skip | (first | ((with_reducible refine at_load_ ?_); refine at_wanted_ (by rfl) ?_; refine lM 5 hM rfl rfl rfl (by first | exact HF9.out | exact HF7.out | exact HF6.out | rfl) ?_) | ((with_reducible refine at_load_ ?_); refine at_wanted_ (by rfl) ?_; refine lM 2 hM rfl rfl rfl (by first  | rfl) ?_)))
        refine wp_region_M [2,5] [11] hM (by kernel_rfl) ?_
        clear hM
        intro wo hM
        refine tW 0 rfl ?_
        simp only [zz]
        refine tW 1 rfl ?_
        simp only [zz]
        refine tW 2 rfl ?_
        simp only [zz]
        refine tW 3 rfl ?_
        simp only [zz]
        refine tL 4 (v := ?_) rfl ⟨fun r hr => (by first | exact hM.get 2 hr | exact hM.get 3 hr), fun r hr => (by first | exact hM.get 5 hr | exact hM.get 6 hr), trivial⟩ (Or.inl ⟨by rfl, ?hy⟩) ?_
        case hy => (rintro W ⟨i2, i5, -⟩; have c2 := (show At W _ _ _ from i2 _ rfl).cell; have c5 := (show At W _ _ _ from i5 _ rfl).cell; (try simp only [cnC,cSeg] at c2 c5); go_simp; (try with_reducible rfl))
        simp only [zz]
        refine tW 5 rfl ?_
        simp only [zz]
        refine tL 6 (v := ?_) rfl ⟨fun r hr => (by first | exact hM.get 2 hr | exact hM.get 3 hr), fun r hr => (by first | exact hM.get 5 hr | exact hM.get 6 hr), trivial⟩ (Or.inl ⟨by rfl, ?hy⟩) ?_
        case hy => (rintro W ⟨i2, i5, -⟩; have c2 := (show At W _ _ _ from i2 _ rfl).cell; have c5 := (show At W _ _ _ from i5 _ rfl).cell; (try simp only [cnC,cSeg] at c2 c5); go_simp; (try with_reducible rfl))
        simp only [zz]
        refine wpI_one (i := 7) rfl (by kernel_rfl) ?_
        (try simp only [zz])
        go_wp2_with (first
            | go_skip
            | (((with_reducible refine at_bslice_ ?_); refine wpList_bslice_mem rfl _ 22 _ rfl Try.underlying83 _ zv_u32 [.int .u32 g.ack] rfl rfl sz_u32 (Nat.le_of_ble_eq_true rfl) (Nat.le_of_ble_eq_true rfl) hM ?_; clear hM; intro g5 W hM; replace hM := cn_last hM)))
        refine contI_normal ⟨fun r hr => (by first | exact hM.get 2 hr | exact hM.get 3 hr), fun r hr => (by first | exact hM.get 5 hr | exact hM.get 6 hr), trivial⟩ ?_
        (try simp only [zz])
        refine wpI_one (i := 8) rfl (by kernel_rfl) ?_
        (try simp only [zz])
        go_wp2_with (first
            | go_skip
            | (((with_reducible refine at_append_ ?_); refine wpList_append_row (f := fU32) (size := 1) rfl _ _ _ 22 rfl Try.underlying83 4 elem_u32 (by decide) 5 0 _ _ c.rs g.ack hM rfl rfl rfl 1 rfl rfl (one_u32 _) HRS.out (by simp only [maxLen]; have := HRS.out; omega) ?_; clear hM; intro vN W hM; simp only [zF, zE] at hM; obtain ⟨An, qn, hvn⟩ := (hM.row (f := fU32) (size := 1) (rs := c.rs ++ [g.ack]) 5 rfl).form; obtain ⟨nN, hnN⟩ : ∃ z, z = (c.rs ++ [g.ack]).length := ⟨_, rfl⟩; rw [← hnN] at hvn; clear hnN; subst hvn)))
        refine contI_normal ⟨fun r hr => (by first | exact hM.get 2 hr | exact hM.get 3 hr), fun r hr => (by first | exact hM.get 5 hr | exact hM.get 6 hr), trivial⟩ ?_
        (try simp only [zz])
        refine tW 9 rfl ?_
        simp only [zz]
        refine tW 10 rfl ?_
        simp only [zz]
        refine wpI_one (i := 11) rfl (by kernel_rfl) ?_
        (try simp only [zz])
        go_wp2_with (first
            | go_skip
            | (((with_reducible refine at_store_ ?_); first | (refine sM 3 hM rfl rfl rfl ?_; clear hM; intro W hM; simp only [zF, zE, cnA, cn4, cn5, cn7, cn9, cn11, cn12, cn13, cn14, cn16, cn17, cn18, cn19, cn20, cn21, cn22, cn23, cn24, cn25, cn26, cn27, cn28] at hM))))
        refine contI_late (by decide) ?_
        (try simp only [zz])
        refine wpI_done (by kernel_rfl) ?_ _
        (try simp only [zz])
        have hM2 := (show MemX E w0 W ([_] ++ (oqA k.go c.o k.vo :: oqB c.o k.vo :: cnA gc { c with rs := c.rs ++ [g.ack] } { k with vr := .slice An nN qn } :: tmR k.gt c.tm :: rsR (.slice An nN qn) (c.rs ++ [g.ack]) :: atR gb 33 (cSeg g) :: m)) from hM).drop_
        have hM3 := cn_out5 hM2
        clear hM hM2
        (go_wp2_with fail)
        go_end0
        refine ⟨0, 0, { k with vr := .slice An nN qn }, rfl, ?_⟩
        rw [HE.out]
        exact fi_none (c := c) (c' := { c with rs := c.rs ++ [g.ack] }) (k := { k with vr := .slice An nN qn }) HHN.out rfl rfl HI.out HW.out hM3
    | false =>
      have hb := of_decide_eq_false HB1.out.symm
      have HCF := Lib.hid (show cFirst c g = (if g.rst then (if g.has then cClosed c 11 else c) else if g.syn then (if g.has then { cAckd (cSyn c g) 1 with st := 3, owed := true } else { cSyn c g with st := 2, o := { c.o with cur := c.o.una } }) else c) from by unfold cFirst; rw [if_neg hb])
      clear hb
      cases hr : g.rst with
      | true =>
        have HF9 := Lib.hid (show (cSeg g)[9]? = some (.bool true) from by rw [← hr]; rfl)
        cases hha : g.has with
        | true =>
          have HF7 := Lib.hid (show (cSeg g)[7]? = some (.bool true) from by rw [← hha]; rfl)
          have HE := Lib.hid (show cFirst c g = cClosed c 11 from by rw [HCF.out, if_pos hr, if_pos hha])
          go_wp2_with (first | go_skip | (first | ((with_reducible refine at_load_ ?_); refine at_wanted_ (by rfl) ?_; refine lM 5 hM rfl rfl rfl (by first | exact HF9.out | exact HF7.out | exact HF6.out | rfl) ?_) | ((with_reducible refine at_load_ ?_); refine at_wanted_ (by rfl) ?_; refine lM 2 hM rfl rfl rfl (by first  | rfl) ?_)) | (go_at_call 44; refine (HCL.out _ _ _ hM).mono ?_; rintro e W ⟨rfl, hM2⟩; replace hM := hM2; clear hM2; dsimp only))
          go_end0
          refine ⟨rfl, 0, 0, k, ?_⟩
          rw [HE.out]
          exact fi_none (c := c) HHN.out rfl rfl HI.out HW.out (cn_out5 hM)
        | false =>
          have HF7 := Lib.hid (show (cSeg g)[7]? = some (.bool false) from by rw [← hha]; rfl)
          have HE := Lib.hid (show cFirst c g = c from by rw [HCF.out, if_pos hr, if_neg (by rw [hha]; decide)])
          go_wp2_with (first | go_skip | (first | ((with_reducible refine at_load_ ?_); refine at_wanted_ (by rfl) ?_; refine lM 5 hM rfl rfl rfl (by first | exact HF9.out | exact HF7.out | exact HF6.out | rfl) ?_) | ((with_reducible refine at_load_ ?_); refine at_wanted_ (by rfl) ?_; refine lM 2 hM rfl rfl rfl (by first  | rfl) ?_)))
          go_end0
          refine ⟨rfl, 0, 0, k, ?_⟩
          rw [HE.out]
          exact fi_none HHN.out rfl rfl HI.out HW.out (cn_out5 hM)
      | false =>
        have HF9 := Lib.hid (show (cSeg g)[9]? = some (.bool false) from by rw [← hr]; rfl)
        cases hsy : g.syn with
        | false =>
          have HF6 := Lib.hid (show (cSeg g)[6]? = some (.bool false) from by rw [← hsy]; rfl)
          have HE := Lib.hid (show cFirst c g = c from by rw [HCF.out, if_neg (by rw [hr]; decide), if_neg (by rw [hsy]; decide)])
          go_wp2_with (first | go_skip | (first | ((with_reducible refine at_load_ ?_); refine at_wanted_ (by rfl) ?_; refine lM 5 hM rfl rfl rfl (by first | exact HF9.out | exact HF7.out | exact HF6.out | rfl) ?_) | ((with_reducible refine at_load_ ?_); refine at_wanted_ (by rfl) ?_; refine lM 2 hM rfl rfl rfl (by first  | rfl) ?_)))
          go_end0
          refine ⟨rfl, 0, 0, k, ?_⟩
          rw [HE.out]
          exact fi_none HHN.out rfl rfl HI.out HW.out (cn_out5 hM)
        | true =>
          have HF6 := Lib.hid (show (cSeg g)[6]? = some (.bool true) from by rw [← hsy]; rfl)
          cases hha : g.has with
          | true =>
            have HF7 := Lib.hid (show (cSeg g)[7]? = some (.bool true) from by rw [← hha]; rfl)
            have HE := Lib.hid (show cFirst c g = { cAckd (cSyn c g) 1 with st := 3, owed := true } from by rw [HCF.out, if_neg (by rw [hr]; decide), if_pos hsy, if_pos hha])
            go_upto_region 10 with (first | go_skip | ((with_reducible refine at_load_ (T := 33) ?_); refine wpList_loadg_mem (by go_simp) 33 _ rfl 5 _ _ _ hM rfl rfl _ Try.underlying33 rfl sz_Seg ?_) | (first | ((with_reducible refine at_load_ ?_); refine at_wanted_ (by rfl) ?_; refine lM 5 hM rfl rfl rfl (by first | exact HF9.out | exact HF7.out | exact HF6.out | rfl) ?_) | ((with_reducible refine at_load_ ?_); refine at_wanted_ (by rfl) ?_; refine lM 2 hM rfl rfl rfl (by first  | rfl) ?_)) | (go_at_call 73; refine (HSY.out _ _ hM).mono ?_; rintro e W ⟨gi, gw, rfl, hM2⟩; replace hM := hM2; clear hM2; dsimp only) | (go_at_call 74; refine (HAK.out _ gi gw _ hM).mono ?_; rintro e W ⟨v1, rfl, hM2⟩; replace hM := hM2; clear hM2; dsimp only))
            obtain ⟨ca, hca⟩ : ∃ z, z = cAckd (cSyn c g) 1 := ⟨_, rfl⟩
            have HCA := Lib.hid (show ca.h = some (newIQ, cAckW ⟨cMss c.own g.mss, 2 * cMss c.own g.mss, 65535⟩ (cMany c.o 1)) ∧ ca.rs = c.rs from by rw [hca]; exact ⟨rfl, rfl⟩)
            have hM2 : MemX E w0 W (oqA k.go ca.o v1 :: oqB ca.o v1 :: cnA gc ca { k with vi := .pointer (some ⟨gi, 0, none⟩), vw := .pointer (some ⟨gw, 0, none⟩) } :: tmR k.gt ca.tm :: rsR k.vr ca.rs :: iqR gi newIQ :: wdR gw (cAckW ⟨cMss c.own g.mss, 2 * cMss c.own g.mss, 65535⟩ (cMany c.o 1)) :: atR gb 33 (cSeg g) :: m) := by rw [hca]; exact hM
            have HE2 := Lib.hid (show cFirst c g = { ca with st := 3, owed := true } from by rw [HE.out, hca])
            clear hM hca HE
            have hM := hM2
            clear hM2
            go_wp2_with (first | go_skip | ((with_reducible refine at_store_ ?_); first | (refine sM 2 hM rfl rfl rfl ?_; clear hM; intro W hM; simp only [zF, zE, cnA, cn4, cn5, cn7, cn9, cn11, cn12, cn13, cn14, cn16, cn17, cn18, cn19, cn20, cn21, cn22, cn23, cn24, cn25, cn26, cn27, cn28] at hM)))
            go_end0
            refine ⟨rfl, gi, gw, { k with vo := v1, vi := .pointer (some ⟨gi, 0, none⟩), vw := .pointer (some ⟨gw, 0, none⟩) }, ?_⟩
            rw [HE2.out]
            exact fi_some (c' := { ca with st := 3, owed := true }) HCA.out.1 (cn_out7 hM)
          | false =>
            have HF7 := Lib.hid (show (cSeg g)[7]? = some (.bool false) from by rw [← hha]; rfl)
            have HE := Lib.hid (show cFirst c g = { cSyn c g with st := 2, o := { c.o with cur := c.o.una } } from by rw [HCF.out, if_neg (by rw [hr]; decide), if_pos hsy, if_neg (by rw [hha]; decide)])
            go_upto_region 13 with (first | go_skip | ((with_reducible refine at_load_ (T := 33) ?_); refine wpList_loadg_mem (by go_simp) 33 _ rfl 5 _ _ _ hM rfl rfl _ Try.underlying33 rfl sz_Seg ?_) | (first | ((with_reducible refine at_load_ ?_); refine at_wanted_ (by rfl) ?_; refine lM 5 hM rfl rfl rfl (by first | exact HF9.out | exact HF7.out | exact HF6.out | rfl) ?_) | ((with_reducible refine at_load_ ?_); refine at_wanted_ (by rfl) ?_; refine lM 2 hM rfl rfl rfl (by first  | rfl) ?_)) | (go_at_call 73; refine (HSY.out _ _ hM).mono ?_; rintro e W ⟨gi, gw, rfl, hM2⟩; replace hM := hM2; clear hM2; dsimp only))
            obtain ⟨ca, hca⟩ : ∃ z, z = cSyn c g := ⟨_, rfl⟩
            have HCA := Lib.hid (show ca.h = some (newIQ, ⟨cMss c.own g.mss, 2 * cMss c.own g.mss, 65535⟩) ∧ ca.rs = c.rs ∧ ca.tm = c.tm from by rw [hca]; exact ⟨rfl, rfl, rfl⟩)
            have HE2 := Lib.hid (show cFirst c g = { ca with st := 2, o := { c.o with cur := c.o.una } } from by rw [HE.out, hca])
            rw [← hca] at hM
            clear hca HE
            go_wp2_with (first | go_skip | ((with_reducible refine at_store_ ?_); first | (refine sM 2 hM rfl rfl rfl ?_; clear hM; intro W hM; simp only [zF, zE, cnA, cn4, cn5, cn7, cn9, cn11, cn12, cn13, cn14, cn16, cn17, cn18, cn19, cn20, cn21, cn22, cn23, cn24, cn25, cn26, cn27, cn28] at hM)) | ((with_reducible refine at_load_ ?_); refine at_wanted_ (by rfl) ?_; first | (refine lM 2 hM rfl rfl rfl rfl ?_)) | (go_at_call 71; refine (HBK.out _ (cq_hand hM)).mono ?_; rintro e W ⟨rfl, hN⟩; replace hM := cq_put hM hN; clear hN; dsimp only))
            go_end0
            refine ⟨rfl, gi, gw, { k with vo := k.vo, vi := .pointer (some ⟨gi, 0, none⟩), vw := .pointer (some ⟨gw, 0, none⟩) }, ?_⟩
            rw [HE2.out]
            exact fi_some (c' := { ca with st := 2, o := { c.o with cur := c.o.una } }) (vo := k.vo) HCA.out.1 (by rw [show ({ ca with st := 2, o := { c.o with cur := c.o.una } } : KCn).rs = c.rs from HCA.out.2.1, show ({ ca with st := 2, o := { c.o with cur := c.o.una } } : KCn).tm = c.tm from HCA.out.2.2]; exact cn_out7 hM)
theorem cAcks_o (c : KCn) (g : KSeg) (at_ : Int) : (cAcks c g at_).1.o = c.o ∨ ∃ a, (cAcks c g at_).1.o = oAck c.o a := by
 have h2 : ∀ (c : KCn) (ack : Int), (cAcks2 c g at_ ack).1.o = c.o ∨ ∃ a, (cAcks2 c g at_ ack).1.o = oAck c.o a := by
  intro c ack
  by_cases hs : c.o.sent < ack
  ·unfold cAcks2; rw [if_pos hs]; exact .inl rfl
  ·obtain ⟨c1, h1⟩ : ∃ z : KCn, z = if c.o.una < ack then cAckd c ack else if ack = c.o.una ∧ sgLen g = 0 ∧ c.o.una < c.o.cur ∧ g.win = c.wnd then cSame c g else c := ⟨_, rfl⟩
   obtain ⟨c2, h2⟩ : ∃ z : KCn, z = if c.o.una < ack ∨ (ack = c.o.una ∧ (c.wat < at_ ∨ (at_ = c.wat ∧ c.wak ≤ ack))) then { c1 with wnd := g.win, wat := at_, wak := ack } else c1 := ⟨_, rfl⟩
   rw [cAcks2_is hs h1 h2]
   have e1 : c1.o = c.o ∨ ∃ a, c1.o = oAck c.o a := by
    rw [h1]; split
    ·exact .inr ⟨ack, rfl⟩
    ·split
     ·exact .inl (cSame_is c g).1
     ·exact .inl rfl
   have e2 : c2.o = c.o ∨ ∃ a, c2.o = oAck c.o a := by
    rw [h2]; split <;> exact e1
   split
   ·split
    ·exact e2
    ·split
     ·exact e2
     ·split <;> exact e2
   ·exact e2
 unfold cAcks
 split
 ·split
  ·exact .inl rfl
  ·exact h2 { c with st := if c.shut then 4 else 3 } _
 ·exact h2 c _
theorem cNext_o (c : KCn) (g : KSeg) : (cNext c g).o = c.o ∨ ∃ a, (cNext c g).o = oAck c.o a := by
 have hA := cAcks_o c g (cAt c g)
 unfold cNext
 split
 ·split <;> exact .inl rfl
 ·split
  ·exact .inl rfl
  ·split
   ·exact .inl rfl
   ·split
    ·split
     ·rw [cTakes1_keep.1]; exact hA
     ·exact hA
    ·exact .inl rfl
theorem cFirst_o (c : KCn) (g : KSeg) : (cFirst c g).o = c.o ∨ (∃ a, (cFirst c g).o = oAck c.o a) ∨ (cFirst c g).o = { c.o with cur := c.o.una } := by
 unfold cFirst
 split
 ·split <;> exact .inl rfl
 ·split
  ·split <;> exact .inl rfl
  ·split
   ·split
    ·exact .inr (.inl ⟨1, rfl⟩)
    ·exact .inr (.inr rfl)
   ·exact .inl rfl
theorem oq_keep {q q' : OQ} (ok : OqOk q) (hb : q.base ≤ 1152921504606846976) (h : q' = q ∨ (∃ a, q' = oAck q a) ∨ q' = { q with cur := q.una }) : OqOk q' ∧ q'.base ≤ 4611686018427387904 := by
 have hl := ok.len
 rcases h with rfl | ⟨a, rfl⟩ | rfl
 ·exact ⟨ok, by omega⟩
 ·refine ⟨ack_ok ok a, ?_⟩
  have h := (ack_fin ok a).1
  unfold oFin at h
  omega
 ·exact ⟨back_ok ok, by show q.base ≤ _; omega⟩
theorem cTakes_h (c : KCn) (g : KSeg) (at_ : Int) : (cTakes c g at_).h = none → c.h = none := by
  intro h
  have h1 : (cTakes1 c g at_).h = none := h
  unfold cTakes1 at h1
  revert h1
  dsimp only
  cases hh : c.h with
  | none => exact fun _ => rfl
  | some x =>
    intro h1
    exfalso
    split at h1
    · split at h1
      · split at h1
        · cases h1
        · split at h1 <;> cases h1
      · cases h1
    · split at h1
      · rw [show (cWait c).h = c.h from rfl, hh] at h1; cases h1
      · rw [hh] at h1; cases h1
theorem cNext_h {c : KCn} {g : KSeg} (h : c.h ≠ none) : (cNext c g).h ≠ none := by
 obtain ⟨x, hx⟩ := Option.ne_none_iff_exists'.1 h
 obtain ⟨q, d⟩ := x
 obtain ⟨⟨d', hA⟩, _⟩ := cAcks_keep (g := g) (at_ := cAt c g) hx
 unfold cNext
 split
 ·split <;> exact h
 ·split
  ·exact h
  ·split
   ·exact h
   ·split
    ·split
     ·intro h0; have := cTakes_h _ _ _ h0; rw [hA] at this; cases this
     ·rw [hA]; exact fun e => by cases e
    ·exact h
structure CIn (c : KCn) : Prop where
 ok : COk c
 own : 8 ≤ c.own ∧ c.own ≤ 1000
 iss : 0 ≤ c.iss ∧ c.iss ≤ 4294967295
 irs : 0 ≤ c.irs ∧ c.irs ≤ 4294967295
 same : 0 ≤ c.same ∧ c.same ≤ 4611686018427387904
 wh : 0 ≤ c.wh ∧ c.wh ≤ 1099511627776
 me : -9223372036854775808 ≤ c.meas ∧ c.meas ≤ 9223372036854775807
 una : c.o.una ≤ 1152921504606846976
 rs : (c.rs.length + 1) * 4 ≤ 140737488355328
 s1 : c.st = 1 → c.h = none
 s2 : c.st ≠ 0 → c.st ≠ 1 → c.h ≠ none
theorem exec_neq {P : Program} {o : Oper} {a : Act} (T : TypeId) (x y : Operand) (R : TypeId) (ho : o.op = .binOp .neq T x y R) (X Y : Array Value) (hx : a.eval x = .agg X) (hy : a.eval y = .agg Y) (hg : P.eqGuardType P.depth T = false) (b : Bool) (heq : ∀ W, (Op.equalIn 10000 T (.agg X) (.agg Y)).run P W = .ok b W) (w : World) : (execOp a.eval o).run P w = .ok (.value (.bool !b)) w := by
 unfold execOp
 simp only [ho, hx, hy, Sem.run_bind, run_eqGuard_agg (hm := hg), run_neq_struct, heq, Sem.run_pure, Result.andThen_ok]
theorem eqB_End (a b c d : Int) (w : World) : (Op.equalIn 10000 29 (.agg #[.int .u32 a, .int .i64 b]) (.agg #[.int .u32 c, .int .i64 d])).run Try.prog w = .ok (decide (a = c ∧ b = d)) w := by
 by_cases e : a = c ∧ b = d
 ·rw [decide_eq_true e, e.1, e.2]; exact eqT_End ⟨c, d⟩ w
 ·rw [decide_eq_false e]; exact eqF_End ⟨a, b⟩ ⟨c, d⟩ (fun h => e (by injection h with h1 h2; exact ⟨h1, h2⟩)) w
theorem cnL_drop {E : Nat → Prop} {w0 W : World} {gc gi gw : Nat} {c : KCn} {k : KPt} {A : Res} {m : List Res} (h : MemX E w0 W (cnL gc gi gw c k (A :: m))) : MemX E w0 W (cnL gc gi gw c k m) := by
 unfold cnL at *
 have h1 : MemX E w0 W ([A] ++ (([oqA k.go c.o k.vo, oqB c.o k.vo, cnA gc c k, tmR k.gt c.tm, rsR k.vr c.rs] ++ hL gi gw c.h) ++ m)) := by
  refine h.perm ?_
  show ([oqA k.go c.o k.vo, oqB c.o k.vo, cnA gc c k, tmR k.gt c.tm, rsR k.vr c.rs] ++ (hL gi gw c.h ++ A :: m)).Perm _
  rw [← List.append_assoc]
  exact List.perm_middle
 have h2 := h1.drop_
 rw [List.append_assoc] at h2
 exact h2
theorem cnL_in {E : Nat → Prop} {w0 W : World} {gc gi gw : Nat} {c : KCn} {k : KPt} {A : Res} {m : List Res} (h : MemX E w0 W (oqA k.go c.o k.vo :: oqB c.o k.vo :: cnA gc c k :: tmR k.gt c.tm :: rsR k.vr c.rs :: A :: (hL gi gw c.h ++ m))) : MemX E w0 W (cnL gc gi gw c k (A :: m)) := by
 unfold cnL
 refine h.perm ?_
 show ([oqA k.go c.o k.vo, oqB c.o k.vo, cnA gc c k, tmR k.gt c.tm, rsR k.vr c.rs] ++ (A :: (hL gi gw c.h ++ m))).Perm ([oqA k.go c.o k.vo, oqB c.o k.vo, cnA gc c k, tmR k.gt c.tm, rsR k.vr c.rs] ++ (hL gi gw c.h ++ A :: m))
 exact List.Perm.append_left _ (List.perm_middle).symm
theorem cnL_of {E : Nat → Prop} {w0 W : World} {gc gi gw : Nat} {c : KCn} {k : KPt} {m : List Res} (hh : c.h ≠ none) (h : MemX E w0 W (oqA k.go c.o k.vo :: oqB c.o k.vo :: cnA gc c k :: tmR k.gt c.tm :: rsR k.vr c.rs :: iqR gi (cQ c) :: wdR gw (cW c) :: m)) : MemX E w0 W (cnL gc gi gw c k m) := by
 obtain ⟨x, hx⟩ := Option.ne_none_iff_exists'.1 hh
 unfold cnL hL
 unfold cQ cW at h
 rw [hx] at h ⊢
 exact h
theorem cnL_to {E : Nat → Prop} {w0 W : World} {gc gi gw : Nat} {c : KCn} {k : KPt} {m : List Res} (hh : c.h ≠ none) (h : MemX E w0 W (cnL gc gi gw c k m)) : MemX E w0 W (oqA k.go c.o k.vo :: oqB c.o k.vo :: cnA gc c k :: tmR k.gt c.tm :: rsR k.vr c.rs :: iqR gi (cQ c) :: wdR gw (cW c) :: m) := by
 obtain ⟨x, hx⟩ := Option.ne_none_iff_exists'.1 hh
 unfold cnL hL at h
 unfold cQ cW
 rw [hx] at h ⊢
 exact h
theorem KOk.some' {k k' : KPt} {gi gw : Nat} {h h' : Option (IQ × KWd)} (hk : KOk k gi gw h) (h0 : h ≠ none) (h1 : h' ≠ none) (hi : k'.vi = k.vi) (hw : k'.vw = k.vw) : KOk k' gi gw h' := by
 obtain ⟨x, rfl⟩ := Option.ne_none_iff_exists'.1 h0
 obtain ⟨y, rfl⟩ := Option.ne_none_iff_exists'.1 h1
 exact ⟨hi.trans hk.1, hw.trans hk.2⟩
theorem KOk.none' {k : KPt} {gi gw : Nat} {h : Option (IQ × KWd)} (hk : KOk k gi gw h) (h0 : h = none) : k.vi = .pointer none ∧ k.vw = .pointer none := by
 subst h0; exact hk
theorem KOk.ptr {k : KPt} {gi gw : Nat} {h : Option (IQ × KWd)} (hk : KOk k gi gw h) (h0 : h ≠ none) : k.vi = .pointer (some ⟨gi, 0, none⟩) ∧ k.vw = .pointer (some ⟨gw, 0, none⟩) := by
 obtain ⟨x, rfl⟩ := Option.ne_none_iff_exists'.1 h0
 exact hk
end Go.Proofs.Ytfpifahkpkjfgaa
