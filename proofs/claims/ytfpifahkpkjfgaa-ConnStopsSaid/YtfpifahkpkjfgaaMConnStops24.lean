/- What ConnStops needs, a part: CnTb. -/
import Derived.Deep.CutBlock
import Derived.Test.YtfpifahkpkjfgaaMConnStops23
namespace Go.Proofs.Ytfpifahkpkjfgaa
open Go.RowKit Go.Lib
set_option linter.unusedVariables false
set_option linter.unusedSimpArgs false
set_option linter.unusedSectionVars false
set_option maxRecDepth 100000
section
variable {u1 u2 u3 u5 u6 u10 u11 u12 u13 u14 u15 u16 u17 u18 u19 u20 u21 u22 u23 u24 u25 u26 u27 u28 u29 u30 u31 u32 u33 u34 u35 u36 u37 u38 u39 u40 u41 u42 u43 u44 u45 u46 u47 u48 u49 u50 u51 u52 u53 u54 u55 u56 u57 u58 u59 u60 u61 u62 u63 u64 u65 u66 u67 u68 u69 u70 u71 u72 u73 u74 u75 u76 u77 u79 u80 u81 u82 u83 u84 u85 u86 u87 u88 u89 u90 u91 u92 u93 u94 u95 u96 u97 u98 u99 u100 u101 u102 u103 u104 u105 u106 u107 u108 u109 u110 u111 u112 u113 u114 u115 u116 u117 u118 u119 u120 u121 u122 u123 u124 u125 u126 u127 u128 u129 u130 u131 u132 u133 u134 u135 u136 u137 u138 u139 u140 u141 u142 u143 u144 u145 u146 u147 u148 u149 u150 u151 u152 u153 u154 u155 u156 u157 u158 u159 u160 u161 u162 u163 u164 u165 u166 u167 u168 u169 u170 u171 u172 u173 u174 u175 u176 u177 u178 u179 u180 u181 u182 u183 u184 u185 u186 u187 u188 u189 u190 u191 u192 u193 u194 u195 u196 u197 u198 u199 u200 u201 u202 u203 u204 u205 u206 u207 u208 u209 u210 u211 u212 u213 u214 : Value} (E : Nat → Prop) (w0 : World) (gc gi gw gb : Nat) (q : IQ) (d : KWd) (ka kb : KCn) (k : KPt) (m : List Res) (w4 : World) (g : KSeg) (a sl : Int) (gr : Bool) (K : Act → World → Prop) (Q0 : Exit → Act → World → Prop)
 (hM : MemX E w0 w4 (oqA k.go ka.o k.vo :: oqB ka.o k.vo :: cnA gc ka k :: tmR k.gt ka.tm :: rsR k.vr ka.rs :: iqR gi q :: wdR gw d :: atR gb 33 (cSeg g) :: m))
 (HG : Hid (gr = decide (ka.o.una < a)))
 (HKB : Hid (kb = if ka.o.una < a then cAckd ka a else if a = ka.o.una ∧ sgLen g = 0 ∧ ka.o.una < ka.o.cur ∧ g.win = ka.wnd then cSame ka g else ka))
 (HKA : Hid (COk ka)) (HCU1 : Hid (0 ≤ ka.o.una ∧ ka.o.una ≤ ka.o.cur ∧ ka.o.cur ≤ ka.o.sent ∧ ka.o.sent ≤ 1152921504606850000)) (hX : ka.h = some (q, d)) (hWW : k.vw = .pointer (some ⟨gw, 0, none⟩)) (HSL : Hid (sl = sgLen g))
 (HLN : Hid (∀ (W : World), Calls Try.prog 77 #[.agg (cSeg g).toArray] W fun e w' => e = .returned (.int .i64 sl) ∧ Below W.heap.size W w'))
 (HAB : Hid (-4611686018427387904 ≤ a ∧ a ≤ 4611686018427387904)) (HWH : Hid (0 ≤ ka.wh ∧ ka.wh ≤ 1099511627776)) (HME : Hid (-9223372036854775808 ≤ ka.meas ∧ ka.meas ≤ 9223372036854775807)) (HSM : Hid (0 ≤ ka.same ∧ ka.same ≤ 4611686018427387904))
 (HQ0 : Hid (∀ c d v a w, Q0 (.panic c) (Act.put a d v) w → Q0 (.panic c) a w))
 (hK : ∀ (v79 v80 v81 v82 v83 v84 v85 v86 v87 v88 v89 v90 v91 v92 v93 v94 v95 v96 v97 v98 v99 v100 v101 v102 v103 v104 v105 v106 v107 v108 v109 v110 v111 v112 v113 v114 v115 v116 v117 v118 v119 v120 v121 v122 v123 v124 v125 v126 v127 v128 v129 v130 v131 v132 v133 v134 v135 v136 v137 : Value) (W : World), (∃ v2, MemX E w0 W (oqA k.go kb.o v2 :: oqB kb.o v2 :: cnA gc kb k :: tmR k.gt kb.tm :: rsR k.vr kb.rs :: iqR gi q :: wdR gw (cW kb) :: atR gb 33 (cSeg g) :: m)) → K ⟨(.pointer (some ⟨gc, 0, none⟩) :: u1 :: u2 :: u3 :: .pointer (some ⟨gb, 0, none⟩) :: u5 :: u6 :: .int .i64 a :: .int .i64 ka.o.una :: .bool gr :: u10 :: u11 :: u12 :: u13 :: u14 :: u15 :: u16 :: u17 :: u18 :: u19 :: u20 :: u21 :: u22 :: u23 :: u24 :: u25 :: u26 :: u27 :: u28 :: u29 :: u30 :: u31 :: u32 :: u33 :: u34 :: u35 :: u36 :: u37 :: u38 :: u39 :: u40 :: u41 :: u42 :: u43 :: u44 :: u45 :: u46 :: u47 :: u48 :: u49 :: u50 :: u51 :: u52 :: u53 :: u54 :: u55 :: u56 :: u57 :: u58 :: u59 :: u60 :: u61 :: u62 :: u63 :: u64 :: u65 :: u66 :: u67 :: u68 :: u69 :: u70 :: u71 :: u72 :: u73 :: u74 :: u75 :: u76 :: u77 :: .bool gr :: v79 :: v80 :: v81 :: v82 :: v83 :: v84 :: v85 :: v86 :: v87 :: v88 :: v89 :: v90 :: v91 :: v92 :: v93 :: v94 :: v95 :: v96 :: v97 :: v98 :: v99 :: v100 :: v101 :: v102 :: v103 :: v104 :: v105 :: v106 :: v107 :: v108 :: v109 :: v110 :: v111 :: v112 :: v113 :: v114 :: v115 :: v116 :: v117 :: v118 :: v119 :: v120 :: v121 :: v122 :: v123 :: v124 :: v125 :: v126 :: v127 :: v128 :: v129 :: v130 :: v131 :: v132 :: v133 :: v134 :: v135 :: v136 :: v137 :: u138 :: u139 :: u140 :: u141 :: u142 :: u143 :: u144 :: u145 :: u146 :: u147 :: u148 :: u149 :: u150 :: u151 :: u152 :: u153 :: u154 :: u155 :: u156 :: u157 :: u158 :: u159 :: u160 :: u161 :: u162 :: u163 :: u164 :: u165 :: u166 :: u167 :: u168 :: u169 :: u170 :: u171 :: u172 :: u173 :: u174 :: u175 :: u176 :: u177 :: u178 :: u179 :: u180 :: u181 :: u182 :: u183 :: u184 :: u185 :: u186 :: u187 :: u188 :: u189 :: u190 :: u191 :: u192 :: u193 :: u194 :: u195 :: u196 :: u197 :: u198 :: u199 :: u200 :: u201 :: u202 :: u203 :: u204 :: u205 :: u206 :: u207 :: u208 :: u209 :: u210 :: u211 :: u212 :: u213 :: u214 :: []).toArray, []⟩ W)
include hM HG HKB HKA HCU1 hX hWW HSL HLN HAB HWH HME HSM HQ0 hK
set_option maxRecDepth 100000 in
set_option maxHeartbeats 8000000 in
theorem ak78_yes (hg : ka.o.una < a) : Code.wp Try.prog ak78C (Exit.then K Q0) ⟨(.pointer (some ⟨gc, 0, none⟩) :: u1 :: u2 :: u3 :: .pointer (some ⟨gb, 0, none⟩) :: u5 :: u6 :: .int .i64 a :: .int .i64 ka.o.una :: .bool gr :: u10 :: u11 :: u12 :: u13 :: u14 :: u15 :: u16 :: u17 :: u18 :: u19 :: u20 :: u21 :: u22 :: u23 :: u24 :: u25 :: u26 :: u27 :: u28 :: u29 :: u30 :: u31 :: u32 :: u33 :: u34 :: u35 :: u36 :: u37 :: u38 :: u39 :: u40 :: u41 :: u42 :: u43 :: u44 :: u45 :: u46 :: u47 :: u48 :: u49 :: u50 :: u51 :: u52 :: u53 :: u54 :: u55 :: u56 :: u57 :: u58 :: u59 :: u60 :: u61 :: u62 :: u63 :: u64 :: u65 :: u66 :: u67 :: u68 :: u69 :: u70 :: u71 :: u72 :: u73 :: u74 :: u75 :: u76 :: u77 :: .bool gr :: u79 :: u80 :: u81 :: u82 :: u83 :: u84 :: u85 :: u86 :: u87 :: u88 :: u89 :: u90 :: u91 :: u92 :: u93 :: u94 :: u95 :: u96 :: u97 :: u98 :: u99 :: u100 :: u101 :: u102 :: u103 :: u104 :: u105 :: u106 :: u107 :: u108 :: u109 :: u110 :: u111 :: u112 :: u113 :: u114 :: u115 :: u116 :: u117 :: u118 :: u119 :: u120 :: u121 :: u122 :: u123 :: u124 :: u125 :: u126 :: u127 :: u128 :: u129 :: u130 :: u131 :: u132 :: u133 :: u134 :: u135 :: u136 :: u137 :: u138 :: u139 :: u140 :: u141 :: u142 :: u143 :: u144 :: u145 :: u146 :: u147 :: u148 :: u149 :: u150 :: u151 :: u152 :: u153 :: u154 :: u155 :: u156 :: u157 :: u158 :: u159 :: u160 :: u161 :: u162 :: u163 :: u164 :: u165 :: u166 :: u167 :: u168 :: u169 :: u170 :: u171 :: u172 :: u173 :: u174 :: u175 :: u176 :: u177 :: u178 :: u179 :: u180 :: u181 :: u182 :: u183 :: u184 :: u185 :: u186 :: u187 :: u188 :: u189 :: u190 :: u191 :: u192 :: u193 :: u194 :: u195 :: u196 :: u197 :: u198 :: u199 :: u200 :: u201 :: u202 :: u203 :: u204 :: u205 :: u206 :: u207 :: u208 :: u209 :: u210 :: u211 :: u212 :: u213 :: u214 :: []).toArray, []⟩ w4 := by
 obtain rfl : gr = true := by rw [HG.out]; exact decide_eq_true hg
 have HE3 := Lib.hid (show kb = cAckd ka a from by rw [HKB.out, if_pos hg])
 have HE4 := Lib.hid (show cW kb = cAckW d (cMany ka.o a) from by rw [HE3.out]; unfold cW cAckd; rw [hX]; rfl)
 have HK2 := Lib.hid (fun (W : World) (M : List Res) (h : MemX E w0 W (oqA k.go ka.o k.vo :: oqB ka.o k.vo :: cnA gc ka k :: tmR k.gt ka.tm :: rsR k.vr ka.rs :: iqR gi q :: wdR gw d :: M)) => ackd_any (E := E) (w0 := w0) gc gi gw q d ka k M W h a HKA.out.ok (by have := HKA.out.hb; omega) HKA.out.ht (HKA.out.hs q d hX).2 hWW ⟨by have := HCU1.out; omega, HAB.out.2⟩ ⟨HKA.out.n1, HKA.out.n2⟩ HWH.out HME.out)
 have HF := Lib.hid (fun (W : World) (v1 : Value) (h : MemX E w0 W (oqA k.go (cAckd ka a).o v1 :: oqB (cAckd ka a).o v1 :: cnA gc (cAckd ka a) k :: tmR k.gt (cAckd ka a).tm :: rsR k.vr ka.rs :: iqR gi q :: wdR gw (cAckW d (cMany ka.o a)) :: atR gb 33 (cSeg g) :: m)) => (⟨v1, by rw [HE4.out, HE3.out, show (cAckd ka a).rs = ka.rs from rfl]; exact h⟩ : ∃ v2, MemX E w0 W (oqA k.go kb.o v2 :: oqB kb.o v2 :: cnA gc kb k :: tmR k.gt kb.tm :: rsR k.vr kb.rs :: iqR gi q :: wdR gw (cW kb) :: atR gb 33 (cSeg g) :: m)))
 clear HE3 HE4 HKB HKA HCU1 hX hWW HAB HWH HME HSM hg HLN HQ0
 conv => arg 2; whnf
 go_wp2_with (first | go_skip | (go_at_call 74; refine (HK2.out _ _ hM).mono ?_; rintro e W ⟨v1, rfl, hM2⟩; replace hM := hM2; clear hM2; dsimp only))
 exact HF.out _ _ hM
set_option maxRecDepth 100000 in
set_option maxHeartbeats 8000000 in
theorem ak78_no (hg : ¬ ka.o.una < a) : Code.wp Try.prog ak78C (Exit.then K Q0) ⟨(.pointer (some ⟨gc, 0, none⟩) :: u1 :: u2 :: u3 :: .pointer (some ⟨gb, 0, none⟩) :: u5 :: u6 :: .int .i64 a :: .int .i64 ka.o.una :: .bool gr :: u10 :: u11 :: u12 :: u13 :: u14 :: u15 :: u16 :: u17 :: u18 :: u19 :: u20 :: u21 :: u22 :: u23 :: u24 :: u25 :: u26 :: u27 :: u28 :: u29 :: u30 :: u31 :: u32 :: u33 :: u34 :: u35 :: u36 :: u37 :: u38 :: u39 :: u40 :: u41 :: u42 :: u43 :: u44 :: u45 :: u46 :: u47 :: u48 :: u49 :: u50 :: u51 :: u52 :: u53 :: u54 :: u55 :: u56 :: u57 :: u58 :: u59 :: u60 :: u61 :: u62 :: u63 :: u64 :: u65 :: u66 :: u67 :: u68 :: u69 :: u70 :: u71 :: u72 :: u73 :: u74 :: u75 :: u76 :: u77 :: .bool gr :: u79 :: u80 :: u81 :: u82 :: u83 :: u84 :: u85 :: u86 :: u87 :: u88 :: u89 :: u90 :: u91 :: u92 :: u93 :: u94 :: u95 :: u96 :: u97 :: u98 :: u99 :: u100 :: u101 :: u102 :: u103 :: u104 :: u105 :: u106 :: u107 :: u108 :: u109 :: u110 :: u111 :: u112 :: u113 :: u114 :: u115 :: u116 :: u117 :: u118 :: u119 :: u120 :: u121 :: u122 :: u123 :: u124 :: u125 :: u126 :: u127 :: u128 :: u129 :: u130 :: u131 :: u132 :: u133 :: u134 :: u135 :: u136 :: u137 :: u138 :: u139 :: u140 :: u141 :: u142 :: u143 :: u144 :: u145 :: u146 :: u147 :: u148 :: u149 :: u150 :: u151 :: u152 :: u153 :: u154 :: u155 :: u156 :: u157 :: u158 :: u159 :: u160 :: u161 :: u162 :: u163 :: u164 :: u165 :: u166 :: u167 :: u168 :: u169 :: u170 :: u171 :: u172 :: u173 :: u174 :: u175 :: u176 :: u177 :: u178 :: u179 :: u180 :: u181 :: u182 :: u183 :: u184 :: u185 :: u186 :: u187 :: u188 :: u189 :: u190 :: u191 :: u192 :: u193 :: u194 :: u195 :: u196 :: u197 :: u198 :: u199 :: u200 :: u201 :: u202 :: u203 :: u204 :: u205 :: u206 :: u207 :: u208 :: u209 :: u210 :: u211 :: u212 :: u213 :: u214 :: []).toArray, []⟩ w4 := by
 obtain rfl : gr = false := by rw [HG.out]; exact decide_eq_false hg
 have HE3 := Lib.hid (show kb = if a = ka.o.una ∧ sl = 0 ∧ ka.o.una < ka.o.cur ∧ g.win = ka.wnd then cSame ka g else ka from by rw [HKB.out, if_neg hg, HSL.out])
 have HCWA := Lib.hid (show cW ka = d from by unfold cW; rw [hX])
 have HX := Lib.hid hX
 have HWW := Lib.hid hWW
 clear HKB hX hWW HAB HWH HME hg HG HSL
 conv => arg 2; whnf
 go_upto_region 16 with (fail)
 by_cases hb : a = ka.o.una ∧ sl = 0 ∧ ka.o.una < ka.o.cur ∧ g.win = ka.wnd
 ·have HE4 := Lib.hid (show kb = cSame ka g from by rw [HE3.out, if_pos hb])
  refine ak16_4 _ _ _ gi gw _ q d ka k m _ g a sl _ _ hM HLN (Lib.hid (by intro _ d _ _ _ h; cases d <;> exact HQ0.out _ _ _ _ _ h)) hb.1 hb.2.1 hb.2.2.1 hb.2.2.2 ?_
  intro v82 v83 v84 v85 v86 v87 v88 v89 v90 v91 v92 v93 v94 v95 v96 v97 v98 v99 v100 v101 v102 v103 v104 v105 v106 W hM2
  clear hM hb HLN HE3
  have hM := hM2
  clear hM2
  have hsm1 := HSM.out
  obtain ⟨hsm1, hsm2⟩ := hsm1
  apply apK
  ·assumption
  go_upto_if 119 with (first | go_skip | ((with_reducible refine at_load_ ?_); refine at_wanted_ (by rfl) ?_; first | (refine lM 2 hM rfl rfl rfl rfl ?_)) | ((with_reducible refine at_store_ ?_); first | (refine sM 2 hM rfl rfl rfl ?_; clear hM; intro W hM; simp only [zF, zE, cnA, cn4, cn5, cn7, cn9, cn11, cn12, cn13, cn14, cn16, cn17, cn18, cn19, cn20, cn21, cn22, cn23, cn24, cn25, cn26, cn27, cn28] at hM)))
  by_cases h3 : ka.same + 1 = 3
  ·have t3 : (ka.same + 1 == 3) = true := by simpa using h3
   have HE5 := Lib.hid (show kb = { ka with same := ka.same + 1, again := true, meas := 0, h := ka.h.map fun x => (x.1, ⟨x.2.m, halfZ x.2.m (ka.o.cur - ka.o.una), halfZ x.2.m (ka.o.cur - ka.o.una)⟩) } from by rw [HE4.out]; unfold cSame; rw [if_pos h3, h3])
   have HCW5 := Lib.hid (show cW kb = ⟨d.m, halfZ d.m (ka.o.cur - ka.o.una), halfZ d.m (ka.o.cur - ka.o.una)⟩ from by rw [HE5.out]; unfold cW; rw [HX.out]; rfl)
   have HLO := Lib.hid (fun (W : World) h => Lost_any gw d.m d.s d.l (ka.o.cur - ka.o.una) W h (HKA.out.hs q d HX.out).2 (by have := HCU1.out; omega) (by have := HCU1.out; omega))
   have hfl1 := HCU1.out
   obtain ⟨hfl1, hfl2, hfl3, hfl4⟩ := hfl1
   clear h3 HKA HCU1 HX
   have HF := Lib.hid (fun (W : World) h => (⟨k.vo, by rw [HCW5.out, HE5.out]; exact h⟩ : ∃ v2, MemX E w0 W (oqA k.go kb.o v2 :: oqB kb.o v2 :: cnA gc kb k :: tmR k.gt kb.tm :: rsR k.vr kb.rs :: iqR gi q :: wdR gw (cW kb) :: atR gb 33 (cSeg g) :: m)))
   go_upto_region 19 with (fail)
   refine wp_region_M [0,2] [] hM (by kernel_rfl) ?_
   clear hM
   intro wo hM
   refine tW 0 rfl ?_
   simp only [zz]
   refine tW 1 rfl ?_
   simp only [zz]
   refine tW 2 rfl ?_
   simp only [zz]
   refine tL 3 (v := ?_) rfl ⟨fun r hr => hM.get 0 hr, fun r hr => hM.get 2 hr, trivial⟩ (Or.inl ⟨by rfl, ?hy⟩) ?_
   case hy => (rintro W ⟨i0, i2, -⟩; have c0 := (show At W _ _ _ from i0 _ rfl).cell; have c2 := (show At W _ _ _ from i2 _ rfl).cell; (try simp only [cnC] at c0 c2); (try simp only [HWW.out] at c2); go_simp; (try with_reducible rfl))
   simp only [zz]
   refine tW 4 rfl ?_
   simp only [zz]
   refine tW 5 rfl ?_
   simp only [zz]
   refine tW 6 rfl ?_
   simp only [zz]
   refine tL 7 (v := ?_) rfl ⟨fun r hr => hM.get 0 hr, fun r hr => hM.get 2 hr, trivial⟩ (Or.inl ⟨by rfl, ?hy⟩) ?_
   case hy => (rintro W ⟨i0, i2, -⟩; have c0 := (show At W _ _ _ from i0 _ rfl).cell; have c2 := (show At W _ _ _ from i2 _ rfl).cell; (try simp only [cnC] at c0 c2); (try simp only [HWW.out] at c2); go_simp; (try with_reducible rfl))
   simp only [zz]
   refine wpI_takeC (i := 8) rfl (by kernel_rfl) (by kernel_rfl) (by kernel_rfl) (by kernel_rfl) (by first | exact fun _ _ _ h => h | exact fun _ _ _ h => HQ0.out _ _ _ _ _ h) ⟨fun r hr => hM.get 0 hr, fun r hr => hM.get 2 hr, trivial⟩ ⟨by rfl, fun W hW => ⟨_, _, by (go_simp; first | done | rfl), (Cur_any k.go ka.o k.vo W (hW.1 _ rfl))⟩⟩ ?_
   simp only [zz]
   refine tW 9 rfl ?_
   simp only [zz]
   refine tW 10 rfl ?_
   simp only [zz]
   refine wpI_one (i := 11) rfl (by kernel_rfl) ?_
   (try simp only [zz])
   go_wp2_with (first
     | go_skip
     | (go_at_call 91; refine (HLO.out _ (hM.at_ 6 rfl)).mono ?_; rintro e W ⟨rfl, hT, hO⟩; replace hM := hM.atPut 6 rfl hO hT; clear hT hO; simp only [zF, zE] at hM; dsimp only))
   refine contI_normal ⟨fun r hr => hM.get 0 hr, fun r hr => hM.get 2 hr, trivial⟩ ?_
   (try simp only [zz])
   refine wpI_done (by kernel_rfl) ?_ _
   (try simp only [zz])
   go_wp2_with (first | go_skip | ((with_reducible refine at_store_ ?_); first | (refine sM 2 hM rfl rfl rfl ?_; clear hM; intro W hM; simp only [zF, zE, cnA, cn4, cn5, cn7, cn9, cn11, cn12, cn13, cn14, cn16, cn17, cn18, cn19, cn20, cn21, cn22, cn23, cn24, cn25, cn26, cn27, cn28] at hM)))
   exact HF.out _ hM
  ·have t3 : (ka.same + 1 == 3) = false := by simpa using h3
   have HE5 := Lib.hid (show kb = { ka with same := ka.same + 1 } from by rw [HE4.out]; unfold cSame; rw [if_neg h3])
   have HCW5 := Lib.hid (show cW kb = d from by rw [HE5.out]; exact HCWA.out)
   clear h3 HKA HCU1 HX
   have HF := Lib.hid (fun (W : World) h => (⟨k.vo, by rw [HCW5.out, HE5.out]; exact h⟩ : ∃ v2, MemX E w0 W (oqA k.go kb.o v2 :: oqB kb.o v2 :: cnA gc kb k :: tmR k.gt kb.tm :: rsR k.vr kb.rs :: iqR gi q :: wdR gw (cW kb) :: atR gb 33 (cSeg g) :: m)))
   go_wp2_with fail
   exact HF.out _ hM
 ·have HE4 := Lib.hid (show kb = ka from by rw [HE3.out, if_neg hb])
  refine ak16_no _ _ _ gi gw _ q d ka k m _ g a sl _ _ hM HLN (Lib.hid (by intro _ d _ _ _ h; cases d <;> exact HQ0.out _ _ _ _ _ h)) hb ?_
  intro v82 v83 v84 v85 v86 v87 v88 v89 v90 v91 v92 v93 v94 v95 v96 v97 v98 v99 v100 v101 v102 v103 v104 v105 v106 W hM2
  clear hM hb HLN HE3
  have hM := hM2
  clear hM2
  have HF := Lib.hid (fun (W : World) h => (⟨k.vo, by rw [HE4.out, HCWA.out]; exact h⟩ : ∃ v2, MemX E w0 W (oqA k.go kb.o v2 :: oqB kb.o v2 :: cnA gc kb k :: tmR k.gt kb.tm :: rsR k.vr kb.rs :: iqR gi q :: wdR gw (cW kb) :: atR gb 33 (cSeg g) :: m)))
  apply apK
  ·assumption
  go_wp2_with fail
  exact HF.out _ hM
theorem ak78 : Code.wp Try.prog ak78C (Exit.then K Q0) ⟨(.pointer (some ⟨gc, 0, none⟩) :: u1 :: u2 :: u3 :: .pointer (some ⟨gb, 0, none⟩) :: u5 :: u6 :: .int .i64 a :: .int .i64 ka.o.una :: .bool gr :: u10 :: u11 :: u12 :: u13 :: u14 :: u15 :: u16 :: u17 :: u18 :: u19 :: u20 :: u21 :: u22 :: u23 :: u24 :: u25 :: u26 :: u27 :: u28 :: u29 :: u30 :: u31 :: u32 :: u33 :: u34 :: u35 :: u36 :: u37 :: u38 :: u39 :: u40 :: u41 :: u42 :: u43 :: u44 :: u45 :: u46 :: u47 :: u48 :: u49 :: u50 :: u51 :: u52 :: u53 :: u54 :: u55 :: u56 :: u57 :: u58 :: u59 :: u60 :: u61 :: u62 :: u63 :: u64 :: u65 :: u66 :: u67 :: u68 :: u69 :: u70 :: u71 :: u72 :: u73 :: u74 :: u75 :: u76 :: u77 :: .bool gr :: u79 :: u80 :: u81 :: u82 :: u83 :: u84 :: u85 :: u86 :: u87 :: u88 :: u89 :: u90 :: u91 :: u92 :: u93 :: u94 :: u95 :: u96 :: u97 :: u98 :: u99 :: u100 :: u101 :: u102 :: u103 :: u104 :: u105 :: u106 :: u107 :: u108 :: u109 :: u110 :: u111 :: u112 :: u113 :: u114 :: u115 :: u116 :: u117 :: u118 :: u119 :: u120 :: u121 :: u122 :: u123 :: u124 :: u125 :: u126 :: u127 :: u128 :: u129 :: u130 :: u131 :: u132 :: u133 :: u134 :: u135 :: u136 :: u137 :: u138 :: u139 :: u140 :: u141 :: u142 :: u143 :: u144 :: u145 :: u146 :: u147 :: u148 :: u149 :: u150 :: u151 :: u152 :: u153 :: u154 :: u155 :: u156 :: u157 :: u158 :: u159 :: u160 :: u161 :: u162 :: u163 :: u164 :: u165 :: u166 :: u167 :: u168 :: u169 :: u170 :: u171 :: u172 :: u173 :: u174 :: u175 :: u176 :: u177 :: u178 :: u179 :: u180 :: u181 :: u182 :: u183 :: u184 :: u185 :: u186 :: u187 :: u188 :: u189 :: u190 :: u191 :: u192 :: u193 :: u194 :: u195 :: u196 :: u197 :: u198 :: u199 :: u200 :: u201 :: u202 :: u203 :: u204 :: u205 :: u206 :: u207 :: u208 :: u209 :: u210 :: u211 :: u212 :: u213 :: u214 :: []).toArray, []⟩ w4 := by
 by_cases hg : ka.o.una < a
 ·exact ak78_yes E w0 gc gi gw gb q d ka kb k m w4 g a sl gr K Q0 hM HG HKB HKA HCU1 hX hWW HSL HLN HAB HWH HME HSM HQ0 hK hg
 ·exact ak78_no E w0 gc gi gw gb q d ka kb k m w4 g a sl gr K Q0 hM HG HKB HKA HCU1 hX hWW HSL HLN HAB HWH HME HSM HQ0 hK hg
end
end Go.Proofs.Ytfpifahkpkjfgaa
