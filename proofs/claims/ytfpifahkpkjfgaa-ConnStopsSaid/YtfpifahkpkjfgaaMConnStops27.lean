/- What ConnStops needs, a part: CnU. -/
import Derived.Deep.CutBlock
import Derived.Test.YtfpifahkpkjfgaaMConnStops26
namespace Go.Proofs.Ytfpifahkpkjfgaa
open Go.RowKit Go.Lib
set_option linter.unusedVariables false
set_option linter.unusedSimpArgs false
set_option linter.unusedSectionVars false
set_option maxRecDepth 100000
theorem cAcks_keep {c : KCn} {g : KSeg} {at_ : Int} {q : IQ} {d : KWd} (h : c.h = some (q, d)) : (∃ d', (cAcks c g at_).1.h = some (q, d')) ∧ (cAcks c g at_).1.now = c.now := by
 have h2 : ∀ (c : KCn) (ack : Int), (∃ d', c.h = some (q, d')) → (∃ d', (cAcks2 c g at_ ack).1.h = some (q, d')) ∧ (cAcks2 c g at_ ack).1.now = c.now := by
  rintro c ack ⟨d, h⟩
  by_cases hs : c.o.sent < ack
  ·unfold cAcks2; rw [if_pos hs]; exact ⟨⟨d, h⟩, rfl⟩
  ·obtain ⟨c1, h1⟩ : ∃ z : KCn, z = if c.o.una < ack then cAckd c ack else if ack = c.o.una ∧ sgLen g = 0 ∧ c.o.una < c.o.cur ∧ g.win = c.wnd then cSame c g else c := ⟨_, rfl⟩
   obtain ⟨c2, h2⟩ : ∃ z : KCn, z = if c.o.una < ack ∨ (ack = c.o.una ∧ (c.wat < at_ ∨ (at_ = c.wat ∧ c.wak ≤ ack))) then { c1 with wnd := g.win, wat := at_, wak := ack } else c1 := ⟨_, rfl⟩
   rw [cAcks2_is hs h1 h2]
   have e1 : (∃ d', c1.h = some (q, d')) ∧ c1.now = c.now := by
    rw [h1]; split
    ·exact ⟨⟨_, by show c.h.map _ = _; rw [h]; rfl⟩, rfl⟩
    ·split
     ·unfold cSame; split
      ·exact ⟨⟨_, by show c.h.map _ = _; rw [h]; rfl⟩, rfl⟩
      ·exact ⟨⟨d, h⟩, rfl⟩
     ·exact ⟨⟨d, h⟩, rfl⟩
   have e2 : (∃ d', c2.h = some (q, d')) ∧ c2.now = c.now := by
    rw [h2]; split
    ·exact e1
    ·exact e1
   split
   ·split
    ·exact e2
    ·split
     ·exact e2
     ·split <;> exact e2
   ·exact e2
 unfold cAcks
 split
 ·split
  ·exact ⟨⟨d, h⟩, rfl⟩
  ·exact h2 { c with st := if c.shut then 4 else 3 } _ ⟨d, h⟩
 ·exact h2 c _ ⟨d, h⟩
theorem cTakes1_keep {c : KCn} {g : KSeg} {at_ : Int} : (cTakes c g at_).o = c.o ∧ (cTakes c g at_).tm = c.tm ∧ (cTakes c g at_).rs = c.rs ∧ cW (cTakes c g at_) = cW c := by
 have h : (cTakes1 c g at_).o = c.o ∧ (cTakes1 c g at_).tm = c.tm ∧ (cTakes1 c g at_).rs = c.rs ∧ cW (cTakes1 c g at_) = cW c := by
  unfold cTakes1
  split
  ·have hw : ∀ c' : KCn, c'.h = (c.h.map fun x => (putQ x.1 at_ g.b g.fin, x.2)) → cW c' = cW c := by
    intro c' h'
    unfold cW; rw [h']; cases c.h <;> rfl
   dsimp only
   split
   ·split
    ·exact ⟨rfl, rfl, rfl, hw _ rfl⟩
    ·split <;> exact ⟨rfl, rfl, rfl, hw _ rfl⟩
   ·exact ⟨rfl, rfl, rfl, hw _ rfl⟩
  ·split <;> exact ⟨rfl, rfl, rfl, rfl⟩
 exact h
theorem nx_qd {E : Nat → Prop} {w0 W : World} {c : KCn} {q : IQ} {d : KWd} {gi gw : Nat} {a b x y z : Res} {m : List Res} (h : c.h = some (q, d)) (hM : MemX E w0 W (a :: b :: x :: y :: z :: iqR gi q :: wdR gw d :: m)) : MemX E w0 W (a :: b :: x :: y :: z :: iqR gi (cQ c) :: wdR gw (cW c) :: m) := by
 rw [show cQ c = q from by unfold cQ; rw [h], show cW c = d from by unfold cW; rw [h]]; exact hM
theorem nx_fin {E : Nat → Prop} {w0 W : World} {gc gi gw : Nat} {k : KPt} {m : List Res} {v2 : Value} {c c' n : KCn} (hn : n = c') (h1 : c'.o = c.o) (h2 : c'.tm = c.tm) (h3 : c'.rs = c.rs) (h4 : c'.h = c.h)
  (hM : MemX E w0 W (oqA k.go c.o v2 :: oqB c.o v2 :: cnA gc c' k :: tmR k.gt c.tm :: rsR k.vr c.rs :: iqR gi (cQ c) :: wdR gw (cW c) :: m)) :
  MemX E w0 W (oqA k.go n.o v2 :: oqB n.o v2 :: cnA gc n { k with vr := k.vr } :: tmR k.gt n.tm :: rsR k.vr n.rs :: iqR gi (cQ n) :: wdR gw (cW n) :: m) := by
 rw [hn, h1, h2, h3, cW_h h4, cQ_h h4]; exact hM
theorem cWant_bd (c : KCn) : 0 ≤ cWant c ∧ cWant c ≤ 4294967295 := by unfold cWant u32; omega
theorem cAt_bd {c : KCn} (g : KSeg) (hq : IqOk (cQ c)) : -9223372036854775808 ≤ cAt c g ∧ cAt c g ≤ 9223372036854775807 := by
 unfold cAt nearZ
 have := dZ_lo (u32 (g.seq - c.irs)) ((cQ c).nx % 4294967296)
 have := dZ_hi (u32 (g.seq - c.irs)) ((cQ c).nx % 4294967296)
 have := hq.nxm; have := hq.rd1; have := hq.rdn
 split at this <;> omega
noncomputable def nx0C : Code := ((Try.f49.body.bind (blkIn 0)).getD .skip)
section
variable {u1 u2 u6 u7 u8 u9 u10 u11 u12 u13 u14 u15 u16 u17 u18 u19 u20 u21 u22 u23 u24 u25 u26 u27 u28 u29 u30 u31 u32 u33 u34 u35 u36 u37 u38 u39 u40 u41 u42 u43 u44 u45 u46 u47 u48 u49 u50 u51 u52 u53 u54 u55 u56 u57 u58 u59 u60 u61 u62 u63 u64 u65 u66 u67 u68 u69 u70 u71 u72 u73 u74 u75 u76 u77 u78 u79 u80 u81 u82 u83 u84 u85 u86 u87 u88 u89 u90 u91 u92 u93 u94 u95 u96 u97 u98 u99 u100 u101 u102 u103 u104 u105 u106 u107 u108 u109 u110 u111 u112 u113 u114 u115 : Value} (E : Nat → Prop) (w0 : World) (gc gi gw gb : Nat) (q : IQ) (d : KWd) (c : KCn) (k : KPt) (m : List Res) (wc : World) (g : KSeg) (Qf : Ending → World → Prop)
 (hM : MemX E w0 wc (oqA k.go c.o k.vo :: oqB c.o k.vo :: cnA gc c k :: tmR k.gt c.tm :: rsR k.vr c.rs :: iqR gi q :: wdR gw d :: atR gb 33 (cSeg g) :: m)) (hh : c.h = some (q, d)) (hi : k.vi = .pointer (some ⟨gi, 0, none⟩)) (hw : k.vw = .pointer (some ⟨gw, 0, none⟩)) (hc : COk c) (hs : g.b.size ≤ 140737488351232)
  (hga : 0 ≤ g.ack ∧ g.ack ≤ 4294967295) (hgs : 0 ≤ g.seq ∧ g.seq ≤ 4294967295) (hiss : 0 ≤ c.iss ∧ c.iss ≤ 4294967295) (hirs : 0 ≤ c.irs ∧ c.irs ≤ 4294967295) (hua : c.o.una ≤ 1152921504606846976) (hsm : 0 ≤ c.same ∧ c.same ≤ 4611686018427387904) (hwh : 0 ≤ c.wh ∧ c.wh ≤ 1099511627776) (hme : -9223372036854775808 ≤ c.meas ∧ c.meas ≤ 9223372036854775807) (hrs : (c.rs.length + 1) * 4 ≤ 140737488355328) (hq : IqOk q)
 (hQ : ∀ (W : World), (∃ vo' vr', MemX E w0 W (oqA k.go (cNext c g).o vo' :: oqB (cNext c g).o vo' :: cnA gc (cNext c g) { k with vr := vr' } :: tmR k.gt (cNext c g).tm :: rsR vr' (cNext c g).rs :: iqR gi (cQ (cNext c g)) :: wdR gw (cW (cNext c g)) :: m)) → Qf (.returned (.tuple #[])) W)
include hM hh hi hw hc hs hga hgs hiss hirs hua hsm hwh hme hrs hq hQ
set_option maxRecDepth 100000 in
set_option maxHeartbeats 8000000 in
theorem nx0 : Code.wp Try.prog nx0C (bodyPost Try.prog Try.f49 Qf) ⟨(.pointer (some ⟨gc, 0, none⟩) :: u1 :: u2 :: .pointer (some ⟨gb, 0, none⟩) :: .int .i64 (cAt c g) :: .int .u32 (cWant c) :: u6 :: u7 :: u8 :: u9 :: u10 :: u11 :: u12 :: u13 :: u14 :: u15 :: u16 :: u17 :: u18 :: u19 :: u20 :: u21 :: u22 :: u23 :: u24 :: u25 :: u26 :: u27 :: u28 :: u29 :: u30 :: u31 :: u32 :: u33 :: u34 :: u35 :: u36 :: u37 :: u38 :: u39 :: u40 :: u41 :: u42 :: u43 :: u44 :: u45 :: u46 :: u47 :: u48 :: u49 :: u50 :: u51 :: u52 :: u53 :: u54 :: u55 :: u56 :: u57 :: u58 :: u59 :: u60 :: u61 :: u62 :: u63 :: u64 :: u65 :: u66 :: u67 :: u68 :: u69 :: u70 :: u71 :: u72 :: u73 :: u74 :: u75 :: u76 :: u77 :: u78 :: u79 :: u80 :: u81 :: u82 :: u83 :: u84 :: u85 :: u86 :: u87 :: u88 :: u89 :: u90 :: u91 :: u92 :: u93 :: u94 :: u95 :: u96 :: u97 :: u98 :: u99 :: u100 :: u101 :: u102 :: u103 :: u104 :: u105 :: u106 :: u107 :: u108 :: u109 :: u110 :: u111 :: u112 :: u113 :: u114 :: u115 :: []).toArray, []⟩ wc := by
  have HQQ := Lib.hid (show cQ c = q from by unfold cQ; rw [hh])
  have HWW := Lib.hid (show cW c = d from by unfold cW; rw [hh])
  have HH := Lib.hid hh
  have HI := Lib.hid hi
  have hwb := cWant_bd c
  obtain ⟨want, hwant⟩ : ∃ z, z = cWant c := ⟨_, rfl⟩
  rw [← hwant] at hwb ⊢
  obtain ⟨at_, hat⟩ : ∃ z, z = cAt c g := ⟨_, rfl⟩
  rw [← hat]
  have hatb : -9223372036854775808 ≤ at_ ∧ at_ ≤ 9223372036854775807 := by rw [hat]; exact cAt_bd g (by rw [HQQ.out]; exact hq)
  obtain ⟨sl, hsl⟩ : ∃ z, z = sgLen g := ⟨_, rfl⟩
  have hslb : 0 ≤ sl ∧ sl ≤ 140737488351234 := by rw [hsl]; have := sgLen_bd g; omega
  have hqe := end_bd q hq
  obtain ⟨b0, hb0⟩ : ∃ z, z = accB g.seq sl want (2048 - (endZ q - q.rd)) := ⟨_, rfl⟩
  have HLN := Lib.hid (fun (W : World) => tcLength_any g W hs)
  have HAC := Lib.hid (fun (W : World) => Accept_any g.seq sl want (2048 - (endZ q - q.rd)) W hgs.1 hgs.2 hwb.1 hwb.2 (by omega) (by omega) (by omega) (by omega))
  have HWN := Lib.hid (fun (W : World) h => Window_any gi q W h hq)
  rw [← hsl] at HLN
  rw [← hb0] at HAC
  have HB0 := Lib.hid hb0
  have HSL := Lib.hid hsl
  have HAT := Lib.hid hat
  have HWT := Lib.hid hwant
  have HAB := Lib.hid hatb
  have HX := Lib.hid (show _ ∧ _ ∧ _ ∧ _ ∧ _ ∧ _ ∧ _ ∧ _ ∧ _ ∧ _ ∧ _ ∧ _ from ⟨hw, hc, hs, hga, hiss, hua, hsm, hwh, hme, hrs, hq, hgs⟩)
  have HW := Lib.hid (fun (W : World) (c : KCn) (hn : 0 ≤ c.now ∧ c.now ≤ 1099511627776) (M : List Res) h => waits_any (E := E) (w0 := w0) gc c k M W h hn.1 hn.2)
  have HCL := Lib.hid (fun (W : World) (y : Int) (M : List Res) h => closed_any (E := E) (w0 := w0) gc c k y M W h)
  have HN := Lib.hid (show 0 ≤ c.now ∧ c.now ≤ 1099511627776 from ⟨hc.n1, hc.n2⟩)
  have HCN := Lib.hid (show cNext c g = if b0 = false then (if c.st = 9 ∧ g.fin = true then cWait { c with owed := c.owed || !g.rst } else { c with owed := c.owed || !g.rst })
    else if g.rst = true ∧ g.seq = want then cClosed c (if c.st = 9 then 0 else 12)
    else if g.rst = true ∨ g.syn = true then { c with owed := true }
    else if g.has = true then (if (cAcks c g at_).2 then cTakes (cAcks c g at_).1 g at_ else (cAcks c g at_).1) else c from by
      rw [hb0, hsl, hwant, hat]; unfold cNext cRoomI; rw [HQQ.out])
  clear hb0 hsl hat hwant hatb hslb hqe hwb hh hi hw hc hs hga hgs hiss hirs hua hsm hwh hme hrs hq
  conv => arg 2; whnf
  go_upto_region 3 with (fail)
  go_cut [30] (fun v W => v = .bool (!b0) ∧ MemX E w0 W (oqA k.go c.o k.vo :: oqB c.o k.vo :: cnA gc c k :: tmR k.gt c.tm :: rsR k.vr c.rs :: iqR gi q :: wdR gw d :: atR gb 33 (cSeg g) :: m))
  case first =>
    refine wp_region_M [2,5,7] [] hM (by kernel_rfl) ?_
    clear hM
    intro wo hM
    refine tW 0 rfl ?_
    simp only [zz]
    refine tL 1 (v := ?_) rfl ⟨fun r hr => hM.get 2 hr, fun r hr => hM.get 5 hr, fun r hr => hM.get 7 hr, trivial⟩ (Or.inl ⟨by rfl, ?hy⟩) ?_
    case hy => (rintro W ⟨i2, i5, i7, -⟩; have c2 := (show At W _ _ _ from i2 _ rfl).cell; have c5 := (show At W _ _ _ from i5 _ rfl).cell; have c7 := (show At W _ _ _ from i7 _ rfl).cell; (try simp only [cnC,cSeg] at c2 c5 c7); (try simp only [HI.out] at c2); go_simp; (try with_reducible rfl))
    simp only [zz]
    refine tL 2 (v := .agg (cSeg g).toArray) rfl ⟨fun r hr => hM.get 2 hr, fun r hr => hM.get 5 hr, fun r hr => hM.get 7 hr, trivial⟩ (Or.inl ⟨by rfl, ?hy⟩) ?_
    case hy => (rintro W ⟨i2, i5, i7, -⟩; have c2 := (show At W _ _ _ from i2 _ rfl).cell; have c5 := (show At W _ _ _ from i5 _ rfl).cell; have c7 := (show At W _ _ _ from i7 _ rfl).cell; (try simp only [cnC,cSeg] at c2 c5 c7); exact exec_loadw _ _ rfl gb 0 rfl (cSeg g) _ Try.underlying33 rfl sz_Seg (range_cells c7))
    simp only [zz]
    refine tW 4 rfl ?_
    simp only [zz]
    refine tW 5 rfl ?_
    simp only [zz]
    refine tW 6 rfl ?_
    simp only [zz]
    refine tW 7 rfl ?_
    simp only [zz]
    refine tL 8 (v := ?_) rfl ⟨fun r hr => hM.get 2 hr, fun r hr => hM.get 5 hr, fun r hr => hM.get 7 hr, trivial⟩ (Or.inl ⟨by rfl, ?hy⟩) ?_
    case hy => (rintro W ⟨i2, i5, i7, -⟩; have c2 := (show At W _ _ _ from i2 _ rfl).cell; have c5 := (show At W _ _ _ from i5 _ rfl).cell; have c7 := (show At W _ _ _ from i7 _ rfl).cell; (try simp only [cnC,cSeg] at c2 c5 c7); (try simp only [HI.out] at c2); go_simp; (try with_reducible rfl))
    simp only [zz]
    refine wpI_one (i := 3) rfl (by kernel_rfl) ?_
    (try simp only [zz])
    go_wp2_with (first
        | go_skip
        | ((go_at_call 77; refine (HLN.out _ ).mono ?_; rintro e W ⟨rfl, hb⟩; replace hM := hM.kept hb; clear hb; dsimp only))
        | ((go_at_call 66; refine (HWN.out _ (hM.at_ 5 rfl)).mono ?_; rintro e W ⟨rfl, hb⟩; replace hM := hM.kept hb; clear hb; dsimp only))
        | ((go_at_call 76; refine (HAC.out _ ).mono ?_; rintro e W ⟨rfl, rfl⟩; dsimp only)))
    refine contI_normal ⟨fun r hr => hM.get 2 hr, fun r hr => hM.get 5 hr, fun r hr => hM.get 7 hr, trivial⟩ ?_
    (try simp only [zz])
    refine wpI_one (i := 9) rfl (by kernel_rfl) ?_
    (try simp only [zz])
    go_wp2_with (first
        | go_skip
        | ((go_at_call 77; refine (HLN.out _ ).mono ?_; rintro e W ⟨rfl, hb⟩; replace hM := hM.kept hb; clear hb; dsimp only))
        | ((go_at_call 66; refine (HWN.out _ (hM.at_ 5 rfl)).mono ?_; rintro e W ⟨rfl, hb⟩; replace hM := hM.kept hb; clear hb; dsimp only))
        | ((go_at_call 76; refine (HAC.out _ ).mono ?_; rintro e W ⟨rfl, rfl⟩; dsimp only)))
    refine contI_normal ⟨fun r hr => hM.get 2 hr, fun r hr => hM.get 5 hr, fun r hr => hM.get 7 hr, trivial⟩ ?_
    (try simp only [zz])
    refine wpI_one (i := 10) rfl (by kernel_rfl) ?_
    (try simp only [zz])
    go_wp2_with (first
        | go_skip
        | ((go_at_call 77; refine (HLN.out _ ).mono ?_; rintro e W ⟨rfl, hb⟩; replace hM := hM.kept hb; clear hb; dsimp only))
        | ((go_at_call 66; refine (HWN.out _ (hM.at_ 5 rfl)).mono ?_; rintro e W ⟨rfl, hb⟩; replace hM := hM.kept hb; clear hb; dsimp only))
        | ((go_at_call 76; refine (HAC.out _ ).mono ?_; rintro e W ⟨rfl, rfl⟩; dsimp only)))
    refine contI_normal ⟨fun r hr => hM.get 2 hr, fun r hr => hM.get 5 hr, fun r hr => hM.get 7 hr, trivial⟩ ?_
    (try simp only [zz])
    refine tW 11 rfl ?_
    simp only [zz]
    refine tW 12 rfl ?_
    simp only [zz]
    refine wpI_done (by kernel_rfl) ?_ _
    (try simp only [zz])
    (go_wp2_with fail; go_meet; case rel => exact ⟨rfl, hM⟩)
  case rest =>
    clear hM HLN HAC HWN
    obtain ⟨rfl, hM⟩ := hcut
    cases b0 with
    | false =>
      have HCN2 := Lib.hid (show cNext c g = (if c.st = 9 ∧ g.fin = true then cWait { c with owed := c.owed || !g.rst } else { c with owed := c.owed || !g.rst }) from by rw [HCN.out, if_pos rfl])
      clear HCN HB0 HX
      obtain ⟨ow, how⟩ : ∃ z, z = (c.owed || !g.rst) := ⟨_, rfl⟩
      have HOW := Lib.hid how
      clear how
      go_upto_region 4 with (fail)
      go_cut [] (fun W => MemX E w0 W (oqA k.go c.o k.vo :: oqB c.o k.vo :: cnA gc { c with owed := ow } k :: tmR k.gt c.tm :: rsR k.vr c.rs :: iqR gi q :: wdR gw d :: atR gb 33 (cSeg g) :: m))
      case first =>
        cases h1 : c.owed with
        | true =>
          have HF1 := Lib.hid (show (cnC c k)[22]? = some (.bool true) from by rw [← h1]; rfl)
          have HO2 := Lib.hid (show ow = true from by rw [HOW.out, h1]; rfl)
          go_wp2_with (first | go_skip | ((with_reducible refine at_load_ ?_); refine at_wanted_ (by rfl) ?_; refine lM 2 hM rfl rfl rfl (by first | exact HF1.out | rfl) ?_) | ((with_reducible refine at_store_ ?_); first | (refine sM 2 hM rfl rfl rfl ?_; clear hM; intro W hM; simp only [zF, zE, cnA, cn4, cn5, cn7, cn9, cn11, cn12, cn13, cn14, cn16, cn17, cn18, cn19, cn20, cn21, cn22, cn23, cn24, cn25, cn26, cn27, cn28] at hM)))
          go_meet
          case rel => rw [HO2.out]; exact hM
        | false =>
          have HF1 := Lib.hid (show (cnC c k)[22]? = some (.bool false) from by rw [← h1]; rfl)
          cases h2 : g.rst with
          | true =>
            have HF2 := Lib.hid (show (cSeg g)[9]? = some (.bool true) from by rw [← h2]; rfl)
            have HO2 := Lib.hid (show ow = false from by rw [HOW.out, h1, h2]; rfl)
            go_wp2_with (first | go_skip | (first | ((with_reducible refine at_load_ ?_); refine at_wanted_ (by rfl) ?_; refine lM 2 hM rfl rfl rfl (by first | exact HF1.out | rfl) ?_) | ((with_reducible refine at_load_ ?_); refine at_wanted_ (by rfl) ?_; refine lM 7 hM rfl rfl rfl (by first | exact HF2.out | rfl) ?_)) | ((with_reducible refine at_store_ ?_); first | (refine sM 2 hM rfl rfl rfl ?_; clear hM; intro W hM; simp only [zF, zE, cnA, cn4, cn5, cn7, cn9, cn11, cn12, cn13, cn14, cn16, cn17, cn18, cn19, cn20, cn21, cn22, cn23, cn24, cn25, cn26, cn27, cn28] at hM)))
            go_meet
            case rel => rw [HO2.out]; exact hM
          | false =>
            have HF2 := Lib.hid (show (cSeg g)[9]? = some (.bool false) from by rw [← h2]; rfl)
            have HO2 := Lib.hid (show ow = true from by rw [HOW.out, h1, h2]; rfl)
            go_wp2_with (first | go_skip | (first | ((with_reducible refine at_load_ ?_); refine at_wanted_ (by rfl) ?_; refine lM 2 hM rfl rfl rfl (by first | exact HF1.out | rfl) ?_) | ((with_reducible refine at_load_ ?_); refine at_wanted_ (by rfl) ?_; refine lM 7 hM rfl rfl rfl (by first | exact HF2.out | rfl) ?_)) | ((with_reducible refine at_store_ ?_); first | (refine sM 2 hM rfl rfl rfl ?_; clear hM; intro W hM; simp only [zF, zE, cnA, cn4, cn5, cn7, cn9, cn11, cn12, cn13, cn14, cn16, cn17, cn18, cn19, cn20, cn21, cn22, cn23, cn24, cn25, cn26, cn27, cn28] at hM)))
            go_meet
            case rel => rw [HO2.out]; exact hM
      case rest =>
        clear hM
        have hM := hcut
        clear hcut
        apply apK
        · assumption
        obtain ⟨ca, hca⟩ : ∃ z : KCn, z = { c with owed := ow } := ⟨_, rfl⟩
        have HCA := Lib.hid (show ca.o = c.o ∧ ca.tm = c.tm ∧ ca.rs = c.rs ∧ ca.h = c.h ∧ ca.now = c.now ∧ ca.st = c.st from by rw [hca]; exact ⟨rfl, rfl, rfl, rfl, rfl, rfl⟩)
        have HC3 := Lib.hid (show cNext c g = (if c.st = 9 ∧ g.fin = true then cWait ca else ca) from by rw [HCN2.out, hca, HOW.out])
        have hM2 : MemX E w0 wc (oqA k.go ca.o k.vo :: oqB ca.o k.vo :: cnA gc ca k :: tmR k.gt ca.tm :: rsR k.vr ca.rs :: iqR gi q :: wdR gw d :: atR gb 33 (cSeg g) :: m) := by rw [hca]; exact hM
        clear hM hca HCN2 HOW
        have hM := hM2
        clear hM2
        by_cases h9 : c.st = 9
        · have t9 : (ca.st == 9) = true := by rw [HCA.out.2.2.2.2.2]; simpa using h9
          cases h2 : g.fin with
          | true =>
            have HF2 := Lib.hid (show (cSeg g)[8]? = some (.bool true) from by rw [← h2]; rfl)
            have HE := Lib.hid (show cNext c g = cWait ca from by rw [HC3.out, if_pos ⟨h9, h2⟩])
            have HN2 := Lib.hid (show 0 ≤ ca.now ∧ ca.now ≤ 1099511627776 from by rw [HCA.out.2.2.2.2.1]; exact HN.out)
            clear h9 HC3
            go_wp2_with (first | go_skip | (first | ((with_reducible refine at_load_ ?_); refine at_wanted_ (by rfl) ?_; refine lM 2 hM rfl rfl rfl (by first  | rfl) ?_) | ((with_reducible refine at_load_ ?_); refine at_wanted_ (by rfl) ?_; refine lM 7 hM rfl rfl rfl (by first | exact HF2.out | rfl) ?_)) | (go_at_call 78; refine (HW.out _ ca HN2.out _ hM).mono ?_; rintro e W ⟨rfl, hM2⟩; replace hM := hM2; clear hM2; dsimp only))
            go_end0
            refine hQ _ ⟨k.vo, k.vr, ?_⟩
            exact nx_fin HE.out rfl rfl rfl rfl (nx_qd (c := ca) (by rw [HCA.out.2.2.2.1]; exact HH.out) (cn_out7 hM))
          | false =>
            have HF2 := Lib.hid (show (cSeg g)[8]? = some (.bool false) from by rw [← h2]; rfl)
            have HE := Lib.hid (show cNext c g = ca from by rw [HC3.out, if_neg (fun h => by have := h.2; rw [h2] at this; contradiction)])
            clear h9 HC3
            go_wp2_with (first | go_skip | (first | ((with_reducible refine at_load_ ?_); refine at_wanted_ (by rfl) ?_; refine lM 2 hM rfl rfl rfl (by first  | rfl) ?_) | ((with_reducible refine at_load_ ?_); refine at_wanted_ (by rfl) ?_; refine lM 7 hM rfl rfl rfl (by first | exact HF2.out | rfl) ?_)))
            go_end0
            refine hQ _ ⟨k.vo, k.vr, ?_⟩
            exact nx_fin HE.out rfl rfl rfl rfl (nx_qd (c := ca) (by rw [HCA.out.2.2.2.1]; exact HH.out) (cn_out7 hM))
        · have t9 : (ca.st == 9) = false := by rw [HCA.out.2.2.2.2.2]; simpa using h9
          have HE := Lib.hid (show cNext c g = ca from by rw [HC3.out, if_neg (fun h => h9 h.1)])
          clear h9 HC3
          go_wp2_with (first | go_skip | ((with_reducible refine at_load_ ?_); refine at_wanted_ (by rfl) ?_; refine lM 2 hM rfl rfl rfl (by first  | rfl) ?_))
          go_end0
          refine hQ _ ⟨k.vo, k.vr, ?_⟩
          exact nx_fin HE.out rfl rfl rfl rfl (nx_qd (c := ca) (by rw [HCA.out.2.2.2.1]; exact HH.out) (cn_out7 hM))
    | true =>
      have HCN2 := Lib.hid (show cNext c g = (if g.rst = true ∧ g.seq = want then cClosed c (if c.st = 9 then 0 else 12) else if g.rst = true ∨ g.syn = true then { c with owed := true }
        else if g.has = true then (if (cAcks c g at_).2 then cTakes (cAcks c g at_).1 g at_ else (cAcks c g at_).1) else c) from by rw [HCN.out, if_neg (by decide)])
      clear HCN HB0
      cases hr : g.rst with
      | true =>
        have HF9 := Lib.hid (show (cSeg g)[9]? = some (.bool true) from by rw [← hr]; rfl)
        by_cases hw : g.seq = want
        · have tw : (g.seq == want) = true := by simpa using hw
          by_cases h9 : c.st = 9
          · have t9 : (c.st == 9) = true := by simpa using h9
            have HE := Lib.hid (show cNext c g = cClosed c 0 from by rw [HCN2.out, if_pos ⟨hr, hw⟩, if_pos h9])
            clear HCN2 hw h9
            go_wp2_with (first | go_skip | (first | ((with_reducible refine at_load_ ?_); refine at_wanted_ (by rfl) ?_; refine lM 7 hM rfl rfl rfl (by first | exact HF9.out | rfl) ?_) | ((with_reducible refine at_load_ ?_); refine at_wanted_ (by rfl) ?_; refine lM 2 hM rfl rfl rfl (by first  | rfl) ?_)) | (go_at_call 44; refine (HCL.out _ _ _ hM).mono ?_; rintro e W ⟨rfl, hM2⟩; replace hM := hM2; clear hM2; dsimp only))
            go_end0
            refine hQ _ ⟨k.vo, k.vr, ?_⟩
            exact nx_fin HE.out rfl rfl rfl rfl (nx_qd HH.out (cn_out7 hM))
          · have t9 : (c.st == 9) = false := by simpa using h9
            have HE := Lib.hid (show cNext c g = cClosed c 12 from by rw [HCN2.out, if_pos ⟨hr, hw⟩, if_neg h9])
            clear HCN2 hw h9
            go_wp2_with (first | go_skip | (first | ((with_reducible refine at_load_ ?_); refine at_wanted_ (by rfl) ?_; refine lM 7 hM rfl rfl rfl (by first | exact HF9.out | rfl) ?_) | ((with_reducible refine at_load_ ?_); refine at_wanted_ (by rfl) ?_; refine lM 2 hM rfl rfl rfl (by first  | rfl) ?_)) | (go_at_call 44; refine (HCL.out _ _ _ hM).mono ?_; rintro e W ⟨rfl, hM2⟩; replace hM := hM2; clear hM2; dsimp only))
            go_end0
            refine hQ _ ⟨k.vo, k.vr, ?_⟩
            exact nx_fin HE.out rfl rfl rfl rfl (nx_qd HH.out (cn_out7 hM))
        · have tw : (g.seq == want) = false := by simpa using hw
          have HE := Lib.hid (show cNext c g = { c with owed := true } from by rw [HCN2.out, if_neg (fun h => hw h.2), if_pos (.inl hr)])
          clear HCN2 hw
          go_wp2_with (first | go_skip | (first | ((with_reducible refine at_load_ ?_); refine at_wanted_ (by rfl) ?_; refine lM 7 hM rfl rfl rfl (by first | exact HF9.out | rfl) ?_) | ((with_reducible refine at_load_ ?_); refine at_wanted_ (by rfl) ?_; refine lM 2 hM rfl rfl rfl (by first  | rfl) ?_)) | ((with_reducible refine at_store_ ?_); first | (refine sM 2 hM rfl rfl rfl ?_; clear hM; intro W hM; simp only [zF, zE, cnA, cn4, cn5, cn7, cn9, cn11, cn12, cn13, cn14, cn16, cn17, cn18, cn19, cn20, cn21, cn22, cn23, cn24, cn25, cn26, cn27, cn28] at hM)))
          go_end0
          refine hQ _ ⟨k.vo, k.vr, ?_⟩
          exact nx_fin HE.out rfl rfl rfl rfl (nx_qd HH.out (cn_out7 hM))
      | false =>
        have HF9 := Lib.hid (show (cSeg g)[9]? = some (.bool false) from by rw [← hr]; rfl)
        have HN1 := Lib.hid (show ¬ (g.rst = true ∧ g.seq = want) from fun h => by rw [hr] at h; exact absurd h.1 (by decide))
        cases hsy : g.syn with
        | true =>
          have HF6 := Lib.hid (show (cSeg g)[6]? = some (.bool true) from by rw [← hsy]; rfl)
          have HE := Lib.hid (show cNext c g = { c with owed := true } from by rw [HCN2.out, if_neg HN1.out, if_pos (.inr hsy)])
          clear HCN2
          go_wp2_with (first | go_skip | (first | ((with_reducible refine at_load_ ?_); refine at_wanted_ (by rfl) ?_; refine lM 7 hM rfl rfl rfl (by first | exact HF9.out | exact HF6.out | rfl) ?_) | ((with_reducible refine at_load_ ?_); refine at_wanted_ (by rfl) ?_; refine lM 2 hM rfl rfl rfl (by first  | rfl) ?_)) | ((with_reducible refine at_store_ ?_); first | (refine sM 2 hM rfl rfl rfl ?_; clear hM; intro W hM; simp only [zF, zE, cnA, cn4, cn5, cn7, cn9, cn11, cn12, cn13, cn14, cn16, cn17, cn18, cn19, cn20, cn21, cn22, cn23, cn24, cn25, cn26, cn27, cn28] at hM)))
          go_end0
          refine hQ _ ⟨k.vo, k.vr, ?_⟩
          exact nx_fin HE.out rfl rfl rfl rfl (nx_qd HH.out (cn_out7 hM))
        | false =>
          have HF6 := Lib.hid (show (cSeg g)[6]? = some (.bool false) from by rw [← hsy]; rfl)
          have HN2 := Lib.hid (show ¬ (g.rst = true ∨ g.syn = true) from fun h => by rw [hr, hsy] at h; exact absurd h (by decide))
          cases hha : g.has with
          | false =>
            have HF7 := Lib.hid (show (cSeg g)[7]? = some (.bool false) from by rw [← hha]; rfl)
            have HE := Lib.hid (show cNext c g = c from by rw [HCN2.out, if_neg HN1.out, if_neg HN2.out, if_neg (by rw [hha]; decide)])
            clear HCN2
            go_wp2_with (first | go_skip | (first | ((with_reducible refine at_load_ ?_); refine at_wanted_ (by rfl) ?_; refine lM 7 hM rfl rfl rfl (by first | exact HF9.out | exact HF6.out | exact HF7.out | rfl) ?_) | ((with_reducible refine at_load_ ?_); refine at_wanted_ (by rfl) ?_; refine lM 2 hM rfl rfl rfl (by first  | rfl) ?_)))
            go_end0
            refine hQ _ ⟨k.vo, k.vr, ?_⟩
            exact nx_fin HE.out rfl rfl rfl rfl (nx_qd HH.out (cn_out7 hM))
          | true =>
            have HF7 := Lib.hid (show (cSeg g)[7]? = some (.bool true) from by rw [← hha]; rfl)
            obtain ⟨X, hX⟩ : ∃ z, z = cAcks c g at_ := ⟨_, rfl⟩
            have HE := Lib.hid (show cNext c g = (if X.2 = true then cTakes X.1 g at_ else X.1) from by rw [HCN2.out, if_neg HN1.out, if_neg HN2.out, if_pos hha, hX])
            have HKP := Lib.hid (show (∃ d', X.1.h = some (q, d')) ∧ X.1.now = c.now from by rw [hX]; exact cAcks_keep HH.out)
            have HA := Lib.hid (fun (W : World) h => acks_any (E := E) (w0 := w0) gc gi gw q d c k (atR gb 33 (cSeg g) :: m) W h g at_ HH.out HX.out.1 HX.out.2.1 HX.out.2.2.1 HX.out.2.2.2.1 HX.out.2.2.2.2.1 HX.out.2.2.2.2.2.1 HX.out.2.2.2.2.2.2.1 HX.out.2.2.2.2.2.2.2.1 HX.out.2.2.2.2.2.2.2.2.1 HX.out.2.2.2.2.2.2.2.2.2.1)
            rw [← hX] at HA
            clear hX HCN2 HN1 HN2
            obtain ⟨ca, r⟩ := X
            have HQA := Lib.hid (show cQ ca = q from by obtain ⟨⟨d', h⟩, _⟩ := HKP.out; unfold cQ; rw [show ca.h = some (q, d') from h])
            have HT := Lib.hid (fun (W : World) (vo1 vr1 : Value) h => takes_any (E := E) (w0 := w0) gc gi gw q (cW ca) ca { k with vo := vo1, vr := vr1 } (atR gb 33 (cSeg g) :: m) W h g at_ (by obtain ⟨⟨d', h⟩, _⟩ := HKP.out; rw [show ca.h = some (q, d') from h]; unfold cW; rw [show ca.h = some (q, d') from h]) HI.out HX.out.2.2.2.2.2.2.2.2.2.2.1 HAB.out HX.out.2.2.1 (by rw [show ca.now = c.now from HKP.out.2]; exact HN.out))
            cases r with
            | false =>
              have HE2 := Lib.hid (show cNext c g = ca from by rw [HE.out]; rfl)
              go_wp2_with (first | go_skip | (first | ((with_reducible refine at_load_ (T := 33) ?_); refine wpList_loadg_mem (by go_simp) 33 _ rfl 7 _ _ _ hM rfl rfl _ Try.underlying33 rfl sz_Seg ?_) | ((with_reducible refine at_load_ ?_); refine at_wanted_ (by rfl) ?_; refine lM 7 hM rfl rfl rfl (by first | exact HF9.out | exact HF6.out | exact HF7.out | rfl) ?_) | ((with_reducible refine at_load_ ?_); refine at_wanted_ (by rfl) ?_; refine lM 2 hM rfl rfl rfl (by first  | rfl) ?_)) | (go_at_call 79; refine (HA.out _ hM).mono ?_; rintro e W ⟨vo1, vr1, rfl, hM2⟩; replace hM := hM2; clear hM2; dsimp only))
              go_end0
              refine hQ _ ⟨vo1, vr1, ?_⟩
              rw [HE2.out, HQA.out]
              exact cn_out7 hM
            | true =>
              have HE2 := Lib.hid (show cNext c g = cTakes ca g at_ from by rw [HE.out]; rfl)
              go_wp2_with (first | go_skip | (first | ((with_reducible refine at_load_ (T := 33) ?_); refine wpList_loadg_mem (by go_simp) 33 _ rfl 7 _ _ _ hM rfl rfl _ Try.underlying33 rfl sz_Seg ?_) | ((with_reducible refine at_load_ ?_); refine at_wanted_ (by rfl) ?_; refine lM 7 hM rfl rfl rfl (by first | exact HF9.out | exact HF6.out | exact HF7.out | rfl) ?_) | ((with_reducible refine at_load_ ?_); refine at_wanted_ (by rfl) ?_; refine lM 2 hM rfl rfl rfl (by first  | rfl) ?_)) | (go_at_call 79; refine (HA.out _ hM).mono ?_; rintro e W ⟨vo1, vr1, rfl, hM2⟩; replace hM := hM2; clear hM2; dsimp only) | (go_at_call 80; refine (HT.out _ vo1 vr1 hM).mono ?_; rintro e W ⟨rfl, hM2⟩; replace hM := hM2; clear hM2; dsimp only))
              go_end0
              refine hQ _ ⟨vo1, vr1, ?_⟩
              rw [HE2.out, cTakes1_keep.1, cTakes1_keep.2.1, cTakes1_keep.2.2.1, cTakes1_keep.2.2.2]
              exact cn_out7 hM
end
set_option maxRecDepth 100000 in
set_option maxHeartbeats 8000000 in
theorem next_any {E : Nat → Prop} {w0 : World} (gc gi gw : Nat) (q : IQ) (d : KWd) (c : KCn) (k : KPt) (m : List Res) (w : World) (hM0 : MemX E w0 w (oqA k.go c.o k.vo :: oqB c.o k.vo :: cnA gc c k :: tmR k.gt c.tm :: rsR k.vr c.rs :: iqR gi q :: wdR gw d :: m)) (g : KSeg) (hh : c.h = some (q, d)) (hi : k.vi = .pointer (some ⟨gi, 0, none⟩)) (hw : k.vw = .pointer (some ⟨gw, 0, none⟩)) (hc : COk c) (hs : g.b.size ≤ 140737488351232)
  (hga : 0 ≤ g.ack ∧ g.ack ≤ 4294967295) (hgs : 0 ≤ g.seq ∧ g.seq ≤ 4294967295) (hiss : 0 ≤ c.iss ∧ c.iss ≤ 4294967295) (hirs : 0 ≤ c.irs ∧ c.irs ≤ 4294967295) (hua : c.o.una ≤ 1152921504606846976) (hsm : 0 ≤ c.same ∧ c.same ≤ 4611686018427387904) (hwh : 0 ≤ c.wh ∧ c.wh ≤ 1099511627776) (hme : -9223372036854775808 ≤ c.meas ∧ c.meas ≤ 9223372036854775807) (hrs : (c.rs.length + 1) * 4 ≤ 140737488355328) (hq : IqOk q) :
  Calls Try.prog 49 #[.pointer (some ⟨gc, 0, none⟩), .agg (cSeg g).toArray] w fun e w' => ∃ vo' vr', e = .returned (.tuple #[]) ∧ MemX E w0 w' (oqA k.go (cNext c g).o vo' :: oqB (cNext c g).o vo' :: cnA gc (cNext c g) { k with vr := vr' } :: tmR k.gt (cNext c g).tm :: rsR vr' (cNext c g).rs :: iqR gi (cQ (cNext c g)) :: wdR gw (cW (cNext c g)) :: m) := by
 have hM := hM0
 clear hM0
 have HX := Lib.hid (show _ ∧ _ ∧ _ ∧ _ ∧ _ ∧ _ ∧ _ ∧ _ ∧ _ ∧ _ ∧ _ ∧ _ ∧ _ ∧ _ ∧ _ ∧ _ from ⟨hh, hi, hw, hc, hs, hga, hgs, hiss, hirs, hua, hsm, hwh, hme, hrs, hq, trivial⟩)
 have HQQ := Lib.hid (show cQ c = q from by unfold cQ; rw [hh])
 have HI := Lib.hid hi
 obtain ⟨n, hn⟩ : ∃ z, z = (g.seq - c.irs) % 4294967296 := ⟨_, rfl⟩
 have hn1 : 0 ≤ n ∧ n ≤ 4294967295 := by rw [hn]; omega
 obtain ⟨at_, hat⟩ : ∃ z, z = cAt c g := ⟨_, rfl⟩
 have hnr : nearZ n q.nx = at_ := by rw [hn, hat]; unfold cAt; rw [HQQ.out]; rfl
 have HNR := Lib.hid (fun (W : World) => Near_any n q.nx W hn1.1 hn1.2 (by have := hq.rd1; have := hq.rdn; split at this <;> omega) hq.nxm)
 rw [hnr] at HNR
 rw [hn] at HNR
 obtain ⟨want, hwt⟩ : ∃ z, z = IntKind.u32.wrap (c.irs + u32 q.nx) := ⟨_, rfl⟩
 have HWT := Lib.hid (show want = cWant c from by rw [hwt, IntKind.wrap_u32]; unfold cWant; rw [HQQ.out]; rfl)
 have HW0 := Lib.hid hwt
 have HAT := Lib.hid hat
 clear hh hi hw hc hs hga hgs hiss hirs hua hsm hwh hme hrs hq hn hn1 hnr hat hwt
 go_enter Try.func49, Try.ntmps49
 go_upto_region 1 with (first | go_skip | ((with_reducible refine at_box_ ?_); refine wpList_box_mem rfl _ _ rfl (cSeg g) rfl hM ?_; clear hM; intro gb W hM; replace hM := cn_in7 hM))
 go_frame
 have hcc := hM.cells 2 rfl
 have hlt := hM.lt 2 rfl
 have hcs := hM.cells 7 rfl
 have hlt2 := hM.lt 7 rfl
 simp only [cnC, HI.out] at hcc
 simp only [cSeg] at hcs
 have HU := Lib.hid (fun (u : Later W) => Next_any gi q u.now ((hM.at_ 5 rfl).kept u.still))
 have HNU := Lib.hid (fun (u : Later W) => HNR.out u.now)
 refine wp_region_later (by kernel_rfl) (by kernel_rfl) (fun hlc => ?_)
 repeat (go_big_quiet_step ((first | (go_at_call 67; exact later_same (HU.out _)) | (go_at_call 75; exact later_same (HNU.out _)))))
 refine wpQuiet_nil ?_
 intro wq hbq
 clear hlc
 clear hcc hlt hcs hlt2 HU HNU
 replace hM := hM.kept hbq
 clear hbq HNR
 go_upto_region 2 with (fail)
 refine wp_region_M [2,5] [] hM (by kernel_rfl) ?_
 clear hM
 intro wo hM
 refine tW 0 rfl ?_
 simp only [zz]
 refine tW 1 rfl ?_
 simp only [zz]
 refine tW 2 rfl ?_
 simp only [zz]
 refine tL 3 (v := ?_) rfl ⟨fun r hr => hM.get 2 hr, fun r hr => hM.get 5 hr, trivial⟩ (Or.inl ⟨by rfl, ?hy⟩) ?_
 case hy => (rintro W ⟨i2, i5, -⟩; have c2 := (show At W _ _ _ from i2 _ rfl).cell; have c5 := (show At W _ _ _ from i5 _ rfl).cell; (try simp only [cnC] at c2 c5); (try simp only [HI.out] at c2); go_simp; (try with_reducible rfl))
 simp only [zz]
 refine tW 4 rfl ?_
 simp only [zz]
 refine tW 5 rfl ?_
 simp only [zz]
 refine tW 6 rfl ?_
 simp only [zz]
 refine tL 7 (v := ?_) rfl ⟨fun r hr => hM.get 2 hr, fun r hr => hM.get 5 hr, trivial⟩ (Or.inl ⟨by rfl, ?hy⟩) ?_
 case hy => (rintro W ⟨i2, i5, -⟩; have c2 := (show At W _ _ _ from i2 _ rfl).cell; have c5 := (show At W _ _ _ from i5 _ rfl).cell; (try simp only [cnC] at c2 c5); (try simp only [HI.out] at c2); go_simp; (try with_reducible rfl))
 simp only [zz]
 refine wpI_takeC (i := 8) rfl (by kernel_rfl) (by kernel_rfl) (by kernel_rfl) (by kernel_rfl) (by first | exact fun _ _ _ h => h | exact fun _ _ _ h => HQ0.out _ _ _ _ _ h) ⟨fun r hr => hM.get 2 hr, fun r hr => hM.get 5 hr, trivial⟩ ⟨by rfl, fun W hW => ⟨_, _, by (go_simp; first | done | rfl), (Next_any gi q W (hW.2.1 _ rfl))⟩⟩ ?_
 simp only [zz]
 refine tY 9 rfl ((.inl ⟨by rfl, fun w => exec_cv32 _ _ _ rfl Try.underlying3 Try.underlying22 _ rfl w⟩)) ?_
 simp only [zz]
 (try simp only [Bool.not_true, Bool.not_false])
 refine tW 10 rfl ?_
 simp only [zz]
 refine tW 11 rfl ?_
 simp only [zz]
 refine wpI_done (by kernel_rfl) ?_ _
 (try simp only [zz])
 rw [← HW0.out, HWT.out, HAT.out]
 go_upto_block 0 with (fail)
 exact nx0 E w0 gc gi gw gb q d c k m _ g _ hM HX.out.1 HX.out.2.1 HX.out.2.2.1 HX.out.2.2.2.1 HX.out.2.2.2.2.1 HX.out.2.2.2.2.2.1 HX.out.2.2.2.2.2.2.1 HX.out.2.2.2.2.2.2.2.1 HX.out.2.2.2.2.2.2.2.2.1 HX.out.2.2.2.2.2.2.2.2.2.1 HX.out.2.2.2.2.2.2.2.2.2.2.1 HX.out.2.2.2.2.2.2.2.2.2.2.2.1 HX.out.2.2.2.2.2.2.2.2.2.2.2.2.1 HX.out.2.2.2.2.2.2.2.2.2.2.2.2.2.1 HX.out.2.2.2.2.2.2.2.2.2.2.2.2.2.2.1 (fun W h => by obtain ⟨v1, r1, h⟩ := h; exact ⟨v1, r1, rfl, h⟩)
end Go.Proofs.Ytfpifahkpkjfgaa
