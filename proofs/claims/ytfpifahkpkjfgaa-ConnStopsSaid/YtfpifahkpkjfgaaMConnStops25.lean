/- What ConnStops needs, a part: CnTc. -/
import Derived.Deep.CutBlock
import Derived.Test.YtfpifahkpkjfgaaMConnStops24
namespace Go.Proofs.Ytfpifahkpkjfgaa
open Go.RowKit Go.Lib
set_option linter.unusedVariables false
set_option linter.unusedSimpArgs false
set_option linter.unusedSectionVars false
set_option maxRecDepth 100000
def fromReg (n : Nat) : Code → Option Code
 | .seq a b => if (regIn n a).isSome then some (.seq a b) else fromReg n b
 | _ => none
noncomputable def ak21C : Code := ((Try.f79.body.bind (fromReg 21)).getD .skip)
section
variable {u1 u3 u5 u10 u11 u12 u13 u14 u15 u16 u17 u18 u19 u20 u21 u22 u23 u24 u25 u26 u27 u28 u29 u30 u31 u32 u33 u34 u35 u36 u37 u38 u39 u40 u41 u42 u43 u44 u45 u46 u47 u48 u49 u50 u51 u52 u53 u54 u55 u56 u57 u58 u59 u60 u61 u62 u63 u64 u65 u66 u67 u68 u69 u70 u71 u72 u73 u74 u75 u76 u77 u78 u79 u80 u81 u82 u83 u84 u85 u86 u87 u88 u89 u90 u91 u92 u93 u94 u95 u96 u97 u98 u99 u100 u101 u102 u103 u104 u105 u106 u107 u108 u109 u110 u111 u112 u113 u114 u115 u116 u117 u118 u119 u120 u121 u122 u123 u124 u125 u126 u127 u128 u129 u130 u131 u132 u133 u134 u135 u136 u137 u138 u139 u140 u141 u142 u143 u144 u145 u146 u147 u148 u149 u150 u151 u152 u153 u154 u155 u156 u157 u158 u159 u160 u161 u162 u163 u164 u165 u166 u167 u168 u169 u170 u171 u172 u173 u174 u175 u176 u177 u178 u179 u180 u181 u182 u183 u184 u185 u186 u187 u188 u189 u190 u191 u192 u193 u194 u195 u196 u197 u198 u199 u200 u201 u202 u203 u204 u205 u206 u207 u208 u209 u210 u211 u212 u213 u214 : Value} (E : Nat → Prop) (w0 : World) (gc gi gw gb : Nat) (q : IQ) (d : KWd) (ka kb : KCn) (k : KPt) (m : List Res) (wc : World) (g : KSeg) (at_ a : Int) (gr : Bool) (v2 : Value) (X : KCn × Bool) (Qf : Ending → World → Prop)
 (hM : MemX E w0 wc (oqA k.go kb.o v2 :: oqB kb.o v2 :: cnA gc kb k :: tmR k.gt kb.tm :: rsR k.vr kb.rs :: iqR gi q :: wdR gw (cW kb) :: atR gb 33 (cSeg g) :: m))
 (HG : Hid (gr = decide (ka.o.una < a)))
 (HKB : Hid (kb = if ka.o.una < a then cAckd ka a else if a = ka.o.una ∧ sgLen g = 0 ∧ ka.o.una < ka.o.cur ∧ g.win = ka.wnd then cSame ka g else ka))
 (HKA : Hid (COk ka)) (HOB : Hid (OqOk kb.o ∧ kb.o.base ≤ 4611686018427387904 ∧ kb.wat = ka.wat ∧ kb.wak = ka.wak ∧ kb.rs = ka.rs ∧ kb.now = ka.now)) (HSA : Hid (¬ ka.o.sent < a))
 (HE : Hid (X = cAcks2 ka g at_ a))
 (hQ : ∀ (W : World), (∃ vo' vr', MemX E w0 W (oqA k.go X.1.o vo' :: oqB X.1.o vo' :: cnA gc X.1 { k with vr := vr' } :: tmR k.gt X.1.tm :: rsR vr' X.1.rs :: iqR gi q :: wdR gw (cW X.1) :: m)) → Qf (.returned (.bool X.2)) W)
include hM HG HKB HKA HOB HSA HE hQ
set_option maxRecDepth 100000 in
set_option maxHeartbeats 8000000 in
theorem ak21 : Code.wp Try.prog ak21C (bodyPost Try.prog Try.f79 Qf) ⟨(.pointer (some ⟨gc, 0, none⟩) :: u1 :: .int .i64 at_ :: u3 :: .pointer (some ⟨gb, 0, none⟩) :: u5 :: .bool false :: .int .i64 a :: .int .i64 ka.o.una :: .bool gr :: u10 :: u11 :: u12 :: u13 :: u14 :: u15 :: u16 :: u17 :: u18 :: u19 :: u20 :: u21 :: u22 :: u23 :: u24 :: u25 :: u26 :: u27 :: u28 :: u29 :: u30 :: u31 :: u32 :: u33 :: u34 :: u35 :: u36 :: u37 :: u38 :: u39 :: u40 :: u41 :: u42 :: u43 :: u44 :: u45 :: u46 :: u47 :: u48 :: u49 :: u50 :: u51 :: u52 :: u53 :: u54 :: u55 :: u56 :: u57 :: u58 :: u59 :: u60 :: u61 :: u62 :: u63 :: u64 :: u65 :: u66 :: u67 :: u68 :: u69 :: u70 :: u71 :: u72 :: u73 :: u74 :: u75 :: u76 :: u77 :: u78 :: u79 :: u80 :: u81 :: u82 :: u83 :: u84 :: u85 :: u86 :: u87 :: u88 :: u89 :: u90 :: u91 :: u92 :: u93 :: u94 :: u95 :: u96 :: u97 :: u98 :: u99 :: u100 :: u101 :: u102 :: u103 :: u104 :: u105 :: u106 :: u107 :: u108 :: u109 :: u110 :: u111 :: u112 :: u113 :: u114 :: u115 :: u116 :: u117 :: u118 :: u119 :: u120 :: u121 :: u122 :: u123 :: u124 :: u125 :: u126 :: u127 :: u128 :: u129 :: u130 :: u131 :: u132 :: u133 :: u134 :: u135 :: u136 :: u137 :: u138 :: u139 :: u140 :: u141 :: u142 :: u143 :: u144 :: u145 :: u146 :: u147 :: u148 :: u149 :: u150 :: u151 :: u152 :: u153 :: u154 :: u155 :: u156 :: u157 :: u158 :: u159 :: u160 :: u161 :: u162 :: u163 :: u164 :: u165 :: u166 :: u167 :: u168 :: u169 :: u170 :: u171 :: u172 :: u173 :: u174 :: u175 :: u176 :: u177 :: u178 :: u179 :: u180 :: u181 :: u182 :: u183 :: u184 :: u185 :: u186 :: u187 :: u188 :: u189 :: u190 :: u191 :: u192 :: u193 :: u194 :: u195 :: u196 :: u197 :: u198 :: u199 :: u200 :: u201 :: u202 :: u203 :: u204 :: u205 :: u206 :: u207 :: u208 :: u209 :: u210 :: u211 :: u212 :: u213 :: u214 :: []).toArray, []⟩ wc := by
  conv => arg 2; whnf
  go_upto_region 21 with (fail)
  obtain ⟨b3, hb3⟩ : ∃ z, z = decide (gr = true ∨ (a = ka.o.una ∧ (kb.wat < at_ ∨ (at_ = kb.wat ∧ kb.wak ≤ a)))) := ⟨_, rfl⟩
  have HB3 := Lib.hid hb3
  clear hb3
  go_cut [167] (fun v W => v = .bool b3 ∧ MemX E w0 W (oqA k.go kb.o v2 :: oqB kb.o v2 :: cnA gc kb k :: tmR k.gt kb.tm :: rsR k.vr kb.rs :: iqR gi q :: wdR gw (cW kb) :: atR gb 33 (cSeg g) :: m))
  case first =>
    have HGX := HG
    clear HG
    cases gr with
    | true =>
      obtain rfl : b3 = true := by rw [HB3.out]; exact decide_eq_true (.inl rfl)
      clear HB3
      go_wp2_with (first | go_skip | ((with_reducible refine at_load_ ?_); refine at_wanted_ (by rfl) ?_; first | (refine lM 2 hM rfl rfl rfl rfl ?_)))
      go_meet
      case rel => exact ⟨rfl, hM⟩
    | false =>
      by_cases e1 : a = ka.o.una
      · have t1 : (a == ka.o.una) = true := by simpa using e1
        by_cases e2 : kb.wat < at_
        · have t2 : decide (kb.wat < at_) = true := by simpa using e2
          obtain rfl : b3 = true := by rw [HB3.out]; exact decide_eq_true (.inr ⟨e1, .inl e2⟩)
          clear HB3 e1 e2
          go_wp2_with (first | go_skip | ((with_reducible refine at_load_ ?_); refine at_wanted_ (by rfl) ?_; first | (refine lM 2 hM rfl rfl rfl rfl ?_)))
          go_meet
          case rel => exact ⟨rfl, hM⟩
        · have t2 : decide (kb.wat < at_) = false := by simpa using e2
          by_cases e3 : at_ = kb.wat
          · have t3 : (at_ == kb.wat) = true := by simpa using e3
            by_cases e4 : kb.wak ≤ a
            · have t4 : decide (kb.wak ≤ a) = true := by simpa using e4
              obtain rfl : b3 = true := by rw [HB3.out]; exact decide_eq_true (.inr ⟨e1, .inr ⟨e3, e4⟩⟩)
              clear HB3 e1 e2 e3 e4
              go_wp2_with (first | go_skip | ((with_reducible refine at_load_ ?_); refine at_wanted_ (by rfl) ?_; first | (refine lM 2 hM rfl rfl rfl rfl ?_)))
              go_meet
              case rel => exact ⟨rfl, hM⟩
            · have t4 : decide (kb.wak ≤ a) = false := by simpa using e4
              obtain rfl : b3 = false := by rw [HB3.out]; exact decide_eq_false (fun h => by rcases h with h | ⟨_, h | h⟩ <;> first | exact absurd h (by decide) | exact e2 h | exact e4 h.2)
              clear HB3 e1 e2 e3 e4
              go_wp2_with (first | go_skip | ((with_reducible refine at_load_ ?_); refine at_wanted_ (by rfl) ?_; first | (refine lM 2 hM rfl rfl rfl rfl ?_)))
              go_meet
              case rel => exact ⟨rfl, hM⟩
          · have t3 : (at_ == kb.wat) = false := by simpa using e3
            obtain rfl : b3 = false := by rw [HB3.out]; exact decide_eq_false (fun h => by rcases h with h | ⟨_, h | h⟩ <;> first | exact absurd h (by decide) | exact e2 h | exact e3 h.1)
            clear HB3 e1 e2 e3
            go_wp2_with (first | go_skip | ((with_reducible refine at_load_ ?_); refine at_wanted_ (by rfl) ?_; first | (refine lM 2 hM rfl rfl rfl rfl ?_)))
            go_meet
            case rel => exact ⟨rfl, hM⟩
      · have t1 : (a == ka.o.una) = false := by simpa using e1
        obtain rfl : b3 = false := by rw [HB3.out]; exact decide_eq_false (fun h => by rcases h with h | h <;> first | exact absurd h (by decide) | exact e1 h.1)
        clear HB3 e1
        go_wp2_with (first | go_skip | ((with_reducible refine at_load_ ?_); refine at_wanted_ (by rfl) ?_; first | (refine lM 2 hM rfl rfl rfl rfl ?_)))
        go_meet
        case rel => exact ⟨rfl, hM⟩
  case rest =>
    clear hM
    obtain ⟨rfl, hM⟩ := hcut
    obtain ⟨kc, hkc⟩ : ∃ z : KCn, z = if b3 = true then { kb with wnd := g.win, wat := at_, wak := a } else kb := ⟨_, rfl⟩
    have HKC := Lib.hid hkc
    have HE4 := Lib.hid (show X = if kc.shut = true ∧ kc.o.una = qEnd kc.o then (if kc.st = 4 then ({ kc with st := 5 }, true) else if kc.st = 7 then (cWait kc, true) else if kc.st = 8 then (cClosed kc 0, false) else (kc, true)) else (kc, true) from by
      rw [HE.out]
      refine cAcks2_is HSA.out HKB.out ?_
      rw [HKC.out, HB3.out, ← HOB.out.2.2.1, ← HOB.out.2.2.2.1, HG.out]
      simp only [decide_eq_true_eq])
    have HOC := Lib.hid (show OqOk kc.o ∧ kc.o.base ≤ 4611686018427387904 ∧ 0 ≤ kc.now ∧ kc.now ≤ 1099511627776 from by
      have h : kc.o = kb.o ∧ kc.now = kb.now := by rw [hkc]; split <;> exact ⟨rfl, rfl⟩
      rw [h.1, h.2, HOB.out.2.2.2.2.2]; exact ⟨HOB.out.1, HOB.out.2.1, HKA.out.n1, HKA.out.n2⟩)
    clear hkc HB3 HKB HOB HG HE HSA HKA
    apply apK
    · assumption
    go_cut [] (fun W => MemX E w0 W (oqA k.go kc.o v2 :: oqB kc.o v2 :: cnA gc kc k :: tmR k.gt kc.tm :: rsR k.vr kc.rs :: iqR gi q :: wdR gw (cW kc) :: atR gb 33 (cSeg g) :: m))
    case first =>
      cases b3 with
      | true =>
        have HKC2 := Lib.hid (show kc = { kb with wnd := g.win, wat := at_, wak := a } from by rw [HKC.out, if_pos rfl])
        go_wp2_with (first | go_skip | ((with_reducible refine at_load_ ?_); refine at_wanted_ (by rfl) ?_; first | (refine lM 7 hM rfl rfl rfl rfl ?_)) | ((with_reducible refine at_store_ ?_); first | (refine sM 2 hM rfl rfl rfl ?_; clear hM; intro W hM; simp only [zF, zE, cnA, cn4, cn5, cn7, cn9, cn11, cn12, cn13, cn14, cn16, cn17, cn18, cn19, cn20, cn21, cn22, cn23, cn24, cn25, cn26, cn27, cn28] at hM)))
        go_meet
        case rel => rw [HKC2.out]; exact hM
      | false =>
        have HKC2 := Lib.hid (show kc = kb from by rw [HKC.out, if_neg (by decide)])
        go_wp2_with fail
        go_meet
        case rel => rw [HKC2.out]; exact hM
    case rest =>
      clear hM HKC
      have hM := hcut
      clear hcut
      apply apK
      · assumption
      go_upto_region 23 with (fail)
      obtain ⟨b4, hb4⟩ : ∃ z, z = decide (kc.shut = true ∧ kc.o.una = qEnd kc.o) := ⟨_, rfl⟩
      have HB4 := Lib.hid hb4
      clear hb4
      go_cut [197] (fun v W => v = .bool b4 ∧ MemX E w0 W (oqA k.go kc.o v2 :: oqB kc.o v2 :: cnA gc kc k :: tmR k.gt kc.tm :: rsR k.vr kc.rs :: iqR gi q :: wdR gw (cW kc) :: atR gb 33 (cSeg g) :: m))
      case first =>
        have hcc := hM.cells 2 rfl
        have hlt := hM.lt 2 rfl
        simp only [cnC] at hcc
        have HU4 := Lib.hid (fun (u : Later wc) => Una_any k.go kc.o v2 u.now ((hM.at_ 0 rfl).kept u.still))
        have HN4 := Lib.hid (fun (u : Later wc) => End_any k.go kc.o v2 u.now ((hM.at_ 0 rfl).kept u.still) ((hM.own 1 rfl).kept u.still) HOC.out.1.len HOC.out.1.ba HOC.out.2.1)
        obtain ⟨sh, hsh⟩ : ∃ z, z = kc.shut := ⟨_, rfl⟩
        have HB5 := Lib.hid (show b4 = decide (sh = true ∧ kc.o.una = qEnd kc.o) from by rw [HB4.out, hsh])
        rw [← hsh] at hcc
        clear hsh HB4 HE4
        cases sh with
        | false =>
          obtain rfl : b4 = false := by rw [HB5.out]; exact decide_eq_false (fun h => by have := h.1; contradiction)
          clear HB5
          refine wp_region_later (by kernel_rfl) (by kernel_rfl) (fun hlc => ?_)
          repeat (go_big_quiet_step ((first | (go_at_call 63; exact later_same (HU4.out _)) | (go_at_call 68; exact later_call (HN4.out _)))))
          refine wpQuiet_nil ?_
          intro wq hbq
          clear hlc
          clear hcc hlt HU4 HN4
          replace hM := hM.kept hbq
          (go_wp2_with fail)
          go_meet
          case rel => exact ⟨rfl, hM⟩
        | true =>
          by_cases e1 : kc.o.una = qEnd kc.o
          · have t1 : (kc.o.una == qEnd kc.o) = true := by simpa using e1
            obtain rfl : b4 = true := by rw [HB5.out]; exact decide_eq_true ⟨rfl, e1⟩
            clear HB5 e1
            refine wp_region_later (by kernel_rfl) (by kernel_rfl) (fun hlc => ?_)
            repeat (go_big_quiet_step ((first | (go_at_call 63; exact later_same (HU4.out _)) | (go_at_call 68; exact later_call (HN4.out _)))))
            refine wpQuiet_nil ?_
            intro wq hbq
            clear hlc
            clear hcc hlt HU4 HN4
            replace hM := hM.kept hbq
            (go_wp2_with fail)
            go_meet
            case rel => exact ⟨rfl, hM⟩
          · have t1 : (kc.o.una == qEnd kc.o) = false := by simpa using e1
            obtain rfl : b4 = false := by rw [HB5.out]; exact decide_eq_false (fun h => e1 h.2)
            clear HB5 e1
            refine wp_region_later (by kernel_rfl) (by kernel_rfl) (fun hlc => ?_)
            repeat (go_big_quiet_step ((first | (go_at_call 63; exact later_same (HU4.out _)) | (go_at_call 68; exact later_call (HN4.out _)))))
            refine wpQuiet_nil ?_
            intro wq hbq
            clear hlc
            clear hcc hlt HU4 HN4
            replace hM := hM.kept hbq
            (go_wp2_with fail)
            go_meet
            case rel => exact ⟨rfl, hM⟩
      case rest =>
        clear hM
        obtain ⟨rfl, hM⟩ := hcut
        cases b4 with
        | false =>
          have hX6 := (show X = (kc, true) from by rw [HE4.out, if_neg (of_decide_eq_false HB4.out.symm)])
          go_wp2_with fail
          have hM3 := cn_out7 hM
          subst hX6
          exact hQ _ ⟨v2, k.vr, ak_fin (c := kc) (c' := kc) rfl rfl rfl rfl hM3⟩
        | true =>
          have HE5 := Lib.hid (show X = (if kc.st = 4 then ({ kc with st := 5 }, true) else if kc.st = 7 then (cWait kc, true) else if kc.st = 8 then (cClosed kc 0, false) else (kc, true)) from by rw [HE4.out, if_pos (of_decide_eq_true HB4.out.symm)])
          clear HE4 HB4
          have HW := Lib.hid (fun (W : World) (M : List Res) h => waits_any (E := E) (w0 := w0) gc kc { k with vo := v2 } M W h HOC.out.2.2.1 HOC.out.2.2.2)
          have HCL := Lib.hid (fun (W : World) (M : List Res) h => closed_any (E := E) (w0 := w0) gc kc { k with vo := v2 } 0 M W h)
          by_cases h4 : kc.st = 4
          · have t4 : (kc.st == 4) = true := by simpa using h4
            have hX6 := (show X = ({ kc with st := 5 }, true) from by rw [HE5.out, if_pos h4])
            clear HE5 h4
            go_wp2_with (first | go_skip | ((with_reducible refine at_load_ ?_); refine at_wanted_ (by rfl) ?_; first | (refine lM 2 hM rfl rfl rfl rfl ?_)) | ((with_reducible refine at_store_ ?_); first | (refine sM 2 hM rfl rfl rfl ?_; clear hM; intro W hM; simp only [zF, zE, cnA, cn4, cn5, cn7, cn9, cn11, cn12, cn13, cn14, cn16, cn17, cn18, cn19, cn20, cn21, cn22, cn23, cn24, cn25, cn26, cn27, cn28] at hM)))
            have hM3 := cn_out7 hM
            subst hX6
            exact hQ _ ⟨v2, k.vr, ak_fin (c := kc) (c' := { kc with st := 5 }) rfl rfl rfl rfl hM3⟩
          · have t4 : (kc.st == 4) = false := by simpa using h4
            by_cases h7 : kc.st = 7
            · have t7 : (kc.st == 7) = true := by simpa using h7
              have hX6 := (show X = (cWait kc, true) from by rw [HE5.out, if_neg h4, if_pos h7])
              clear HE5 h4 h7
              go_wp2_with (first | go_skip | ((with_reducible refine at_load_ ?_); refine at_wanted_ (by rfl) ?_; first | (refine lM 2 hM rfl rfl rfl rfl ?_)) | (go_at_call 78; refine (HW.out _ _ hM).mono ?_; rintro e W ⟨rfl, hM2⟩; replace hM := hM2; clear hM2; dsimp only))
              have hM3 := cn_out7 hM
              subst hX6
              exact hQ _ ⟨v2, k.vr, ak_fin (c := kc) (c' := cWait kc) rfl rfl rfl rfl hM3⟩
            · have t7 : (kc.st == 7) = false := by simpa using h7
              by_cases h8 : kc.st = 8
              · have t8 : (kc.st == 8) = true := by simpa using h8
                have hX6 := (show X = (cClosed kc 0, false) from by rw [HE5.out, if_neg h4, if_neg h7, if_pos h8])
                clear HE5 h4 h7 h8
                go_wp2_with (first | go_skip | ((with_reducible refine at_load_ ?_); refine at_wanted_ (by rfl) ?_; first | (refine lM 2 hM rfl rfl rfl rfl ?_)) | (go_at_call 44; refine (HCL.out _ _ hM).mono ?_; rintro e W ⟨rfl, hM2⟩; replace hM := hM2; clear hM2; dsimp only))
                have hM3 := cn_out7 hM
                subst hX6
                exact hQ _ ⟨v2, k.vr, ak_fin (c := kc) (c' := cClosed kc 0) rfl rfl rfl rfl hM3⟩
              · have t8 : (kc.st == 8) = false := by simpa using h8
                have hX6 := (show X = (kc, true) from by rw [HE5.out, if_neg h4, if_neg h7, if_neg h8])
                clear HE5 h4 h7 h8
                go_wp2_with (first | go_skip | ((with_reducible refine at_load_ ?_); refine at_wanted_ (by rfl) ?_; first | (refine lM 2 hM rfl rfl rfl rfl ?_)))
                have hM3 := cn_out7 hM
                subst hX6
                exact hQ _ ⟨v2, k.vr, ak_fin (c := kc) (c' := kc) rfl rfl rfl rfl hM3⟩
end
end Go.Proofs.Ytfpifahkpkjfgaa
