/- What ConnStops needs, a part: CnTa. -/
import Derived.Deep.CutBlock
import Derived.Test.YtfpifahkpkjfgaaMConnStops22
namespace Go.Proofs.Ytfpifahkpkjfgaa
open Go.RowKit Go.Lib
set_option linter.unusedVariables false
set_option linter.unusedSimpArgs false
set_option linter.unusedSectionVars false
set_option maxRecDepth 100000
def regIn (n : Nat) : Code → Option Code
  | .region k ops b => if k = n then some (.region k ops b) else none
  | .block _ c => regIn n c
  | .seq a b => match regIn n a with
    | some c => some c
    | none => regIn n b
  | .loop c => regIn n c
  | .scope c => regIn n c
  | .cond _ a b => match regIn n a with
    | some c => some c
    | none => regIn n b
  | _ => none
noncomputable def ak16C : Code := ((Try.f79.body.bind (regIn 16)).getD .skip)
noncomputable def ak78C : Code := ((Try.f79.body.bind (ifIn 78)).getD .skip)
theorem zv_u32 : ∀ W : World, (zeroValue 22).run Try.prog W = .ok (.int .u32 0) W := fun _ => by kernel_rfl
theorem sz_u32 : (Try.prog.info? 22).map (·.size) = some 1 := by kernel_rfl
theorem elem_u32 : (Try.prog.info? 22).map (fun i => (i.size, i.bytes, i.zero.map (·.cells.size))) = some (1, 4, some 1) := by kernel_rfl
theorem one_u32 (x : Int) : ∀ u ∈ fU32 x, u.oneCell' = true := by
 intro u hu
 unfold fU32 at hu
 simp only [List.mem_cons, List.not_mem_nil, or_false] at hu
 subst hu; rfl
theorem cW_h {c c' : KCn} (h : c.h = c'.h) : cW c = cW c' := by unfold cW; rw [h]
theorem cQ_h {c c' : KCn} (h : c.h = c'.h) : cQ c = cQ c' := by unfold cQ; rw [h]
theorem ak_fin {E : Nat → Prop} {w0 W : World} {gc gi gw : Nat} {q : IQ} {k : KPt} {m : List Res} {v2 : Value} {c c' : KCn} (h1 : c'.o = c.o) (h2 : c'.tm = c.tm) (h3 : c'.rs = c.rs) (h4 : c'.h = c.h)
  (hM : MemX E w0 W (oqA k.go c.o v2 :: oqB c.o v2 :: cnA gc c' k :: tmR k.gt c.tm :: rsR k.vr c.rs :: iqR gi q :: wdR gw (cW c) :: m)) :
  MemX E w0 W (oqA k.go c'.o v2 :: oqB c'.o v2 :: cnA gc c' { k with vr := k.vr } :: tmR k.gt c'.tm :: rsR k.vr c'.rs :: iqR gi q :: wdR gw (cW c') :: m) := by
 rw [h1, h2, h3, cW_h h4]; exact hM
theorem cAcks2_is {c c1 c2 : KCn} {g : KSeg} {at_ ack : Int} (h : ¬ c.o.sent < ack)
  (h1 : c1 = if c.o.una < ack then cAckd c ack else if ack = c.o.una ∧ sgLen g = 0 ∧ c.o.una < c.o.cur ∧ g.win = c.wnd then cSame c g else c)
  (h2 : c2 = if c.o.una < ack ∨ (ack = c.o.una ∧ (c.wat < at_ ∨ (at_ = c.wat ∧ c.wak ≤ ack))) then { c1 with wnd := g.win, wat := at_, wak := ack } else c1) :
  cAcks2 c g at_ ack = if c2.shut = true ∧ c2.o.una = qEnd c2.o then
   (if c2.st = 4 then ({ c2 with st := 5 }, true) else if c2.st = 7 then (cWait c2, true) else if c2.st = 8 then (cClosed c2 0, false) else (c2, true))
  else (c2, true) := by
 subst h1 h2; unfold cAcks2; rw [if_neg h]
theorem cSame_is (c : KCn) (g : KSeg) : (cSame c g).o = c.o ∧ (cSame c g).tm = c.tm ∧ (cSame c g).rs = c.rs ∧ (cSame c g).wat = c.wat ∧ (cSame c g).wak = c.wak ∧ (cSame c g).now = c.now := by
 unfold cSame; split <;> exact ⟨rfl, rfl, rfl, rfl, rfl, rfl⟩
theorem kb_o {c c1 : KCn} {g : KSeg} {ack : Int} {P : Prop} [Decidable P] (ok : OqOk c.o) (hb : c.o.base ≤ 1152921504606846976)
  (h1 : c1 = if c.o.una < ack then cAckd c ack else if P then cSame c g else c) :
  OqOk c1.o ∧ c1.o.base ≤ 4611686018427387904 ∧ c1.wat = c.wat ∧ c1.wak = c.wak ∧ c1.rs = c.rs ∧ c1.now = c.now := by
 rw [h1]
 have hl := ok.len
 have hs := cSame_is c g
 split
 ·refine ⟨ack_ok ok ack, ?_, rfl, rfl, rfl, rfl⟩
  have h := (ack_fin ok ack).1
  show (oAck c.o ack).base ≤ _
  unfold oFin at h
  omega
 ·split
  ·rw [hs.1]; exact ⟨ok, by omega, hs.2.2.2.1, hs.2.2.2.2.1, hs.2.2.1, hs.2.2.2.2.2⟩
  ·exact ⟨ok, by omega, rfl, rfl, rfl, rfl⟩
section
variable {u1 u2 u3 u5 u6 u9 u10 u11 u12 u13 u14 u15 u16 u17 u18 u19 u20 u21 u22 u23 u24 u25 u26 u27 u28 u29 u30 u31 u32 u33 u34 u35 u36 u37 u38 u39 u40 u41 u42 u43 u44 u45 u46 u47 u48 u49 u50 u51 u52 u53 u54 u55 u56 u57 u58 u59 u60 u61 u62 u63 u64 u65 u66 u67 u68 u69 u70 u71 u72 u73 u74 u75 u76 u77 u78 u79 u80 u81 u82 u83 u84 u85 u86 u87 u88 u89 u90 u91 u92 u93 u94 u95 u96 u97 u98 u99 u100 u101 u102 u103 u104 u105 u106 u107 u108 u109 u110 u111 u112 u113 u114 u115 u116 u117 u118 u119 u120 u121 u122 u123 u124 u125 u126 u127 u128 u129 u130 u131 u132 u133 u134 u135 u136 u137 u138 u139 u140 u141 u142 u143 u144 u145 u146 u147 u148 u149 u150 u151 u152 u153 u154 u155 u156 u157 u158 u159 u160 u161 u162 u163 u164 u165 u166 u167 u168 u169 u170 u171 u172 u173 u174 u175 u176 u177 u178 u179 u180 u181 u182 u183 u184 u185 u186 u187 u188 u189 u190 u191 u192 u193 u194 u195 u196 u197 u198 u199 u200 u201 u202 u203 u204 u205 u206 u207 u208 u209 u210 u211 u212 u213 u214 : Value} (E : Nat → Prop) (w0 : World) (gc gi gw gb : Nat) (q : IQ) (d : KWd) (ka : KCn) (k : KPt) (m : List Res) (w4 : World) (g : KSeg) (a sl : Int) (K : Act → World → Prop) (Q0 : Exit → Act → World → Prop)
 (hM : MemX E w0 w4 (oqA k.go ka.o k.vo :: oqB ka.o k.vo :: cnA gc ka k :: tmR k.gt ka.tm :: rsR k.vr ka.rs :: iqR gi q :: wdR gw d :: atR gb 33 (cSeg g) :: m))
 (HLN : Hid (∀ (W : World), Calls Try.prog 77 #[.agg (cSeg g).toArray] W fun e w' => e = .returned (.int .i64 sl) ∧ Below W.heap.size W w'))
 (HQ0 : Hid (∀ c d v a w, Q0 (.panic c) (Act.put a d v) w → Q0 (.panic c) a w))
include hM HLN HQ0
set_option maxRecDepth 100000 in
set_option maxHeartbeats 8000000 in
theorem ak16_0 (e1 : ¬ a = ka.o.una)
  (hK : ∀ (v82 v83 v84 v85 v86 v87 v88 v89 v90 v91 v92 v93 v94 v95 v96 v97 v98 v99 v100 v101 v102 v103 v104 v105 v106 : Value) (W : World), MemX E w0 W (oqA k.go ka.o k.vo :: oqB ka.o k.vo :: cnA gc ka k :: tmR k.gt ka.tm :: rsR k.vr ka.rs :: iqR gi q :: wdR gw d :: atR gb 33 (cSeg g) :: m) → K ⟨(.pointer (some ⟨gc, 0, none⟩) :: u1 :: u2 :: u3 :: .pointer (some ⟨gb, 0, none⟩) :: u5 :: u6 :: .int .i64 a :: .int .i64 ka.o.una :: u9 :: u10 :: u11 :: u12 :: u13 :: u14 :: u15 :: u16 :: u17 :: u18 :: u19 :: u20 :: u21 :: u22 :: u23 :: u24 :: u25 :: u26 :: u27 :: u28 :: u29 :: u30 :: u31 :: u32 :: u33 :: u34 :: u35 :: u36 :: u37 :: u38 :: u39 :: u40 :: u41 :: u42 :: u43 :: u44 :: u45 :: u46 :: u47 :: u48 :: u49 :: u50 :: u51 :: u52 :: u53 :: u54 :: u55 :: u56 :: u57 :: u58 :: u59 :: u60 :: u61 :: u62 :: u63 :: u64 :: u65 :: u66 :: u67 :: u68 :: u69 :: u70 :: u71 :: u72 :: u73 :: u74 :: u75 :: u76 :: u77 :: u78 :: u79 :: u80 :: u81 :: v82 :: v83 :: v84 :: v85 :: v86 :: v87 :: v88 :: v89 :: v90 :: v91 :: v92 :: v93 :: v94 :: v95 :: v96 :: v97 :: v98 :: v99 :: v100 :: v101 :: v102 :: v103 :: v104 :: v105 :: v106 :: .bool false :: u108 :: u109 :: u110 :: u111 :: u112 :: u113 :: u114 :: u115 :: u116 :: u117 :: u118 :: u119 :: u120 :: u121 :: u122 :: u123 :: u124 :: u125 :: u126 :: u127 :: u128 :: u129 :: u130 :: u131 :: u132 :: u133 :: u134 :: u135 :: u136 :: u137 :: u138 :: u139 :: u140 :: u141 :: u142 :: u143 :: u144 :: u145 :: u146 :: u147 :: u148 :: u149 :: u150 :: u151 :: u152 :: u153 :: u154 :: u155 :: u156 :: u157 :: u158 :: u159 :: u160 :: u161 :: u162 :: u163 :: u164 :: u165 :: u166 :: u167 :: u168 :: u169 :: u170 :: u171 :: u172 :: u173 :: u174 :: u175 :: u176 :: u177 :: u178 :: u179 :: u180 :: u181 :: u182 :: u183 :: u184 :: u185 :: u186 :: u187 :: u188 :: u189 :: u190 :: u191 :: u192 :: u193 :: u194 :: u195 :: u196 :: u197 :: u198 :: u199 :: u200 :: u201 :: u202 :: u203 :: u204 :: u205 :: u206 :: u207 :: u208 :: u209 :: u210 :: u211 :: u212 :: u213 :: u214 :: []).toArray, []⟩ W) : Code.wp Try.prog ak16C (Exit.then K Q0) ⟨(.pointer (some ⟨gc, 0, none⟩) :: u1 :: u2 :: u3 :: .pointer (some ⟨gb, 0, none⟩) :: u5 :: u6 :: .int .i64 a :: .int .i64 ka.o.una :: u9 :: u10 :: u11 :: u12 :: u13 :: u14 :: u15 :: u16 :: u17 :: u18 :: u19 :: u20 :: u21 :: u22 :: u23 :: u24 :: u25 :: u26 :: u27 :: u28 :: u29 :: u30 :: u31 :: u32 :: u33 :: u34 :: u35 :: u36 :: u37 :: u38 :: u39 :: u40 :: u41 :: u42 :: u43 :: u44 :: u45 :: u46 :: u47 :: u48 :: u49 :: u50 :: u51 :: u52 :: u53 :: u54 :: u55 :: u56 :: u57 :: u58 :: u59 :: u60 :: u61 :: u62 :: u63 :: u64 :: u65 :: u66 :: u67 :: u68 :: u69 :: u70 :: u71 :: u72 :: u73 :: u74 :: u75 :: u76 :: u77 :: u78 :: u79 :: u80 :: u81 :: u82 :: u83 :: u84 :: u85 :: u86 :: u87 :: u88 :: u89 :: u90 :: u91 :: u92 :: u93 :: u94 :: u95 :: u96 :: u97 :: u98 :: u99 :: u100 :: u101 :: u102 :: u103 :: u104 :: u105 :: u106 :: u107 :: u108 :: u109 :: u110 :: u111 :: u112 :: u113 :: u114 :: u115 :: u116 :: u117 :: u118 :: u119 :: u120 :: u121 :: u122 :: u123 :: u124 :: u125 :: u126 :: u127 :: u128 :: u129 :: u130 :: u131 :: u132 :: u133 :: u134 :: u135 :: u136 :: u137 :: u138 :: u139 :: u140 :: u141 :: u142 :: u143 :: u144 :: u145 :: u146 :: u147 :: u148 :: u149 :: u150 :: u151 :: u152 :: u153 :: u154 :: u155 :: u156 :: u157 :: u158 :: u159 :: u160 :: u161 :: u162 :: u163 :: u164 :: u165 :: u166 :: u167 :: u168 :: u169 :: u170 :: u171 :: u172 :: u173 :: u174 :: u175 :: u176 :: u177 :: u178 :: u179 :: u180 :: u181 :: u182 :: u183 :: u184 :: u185 :: u186 :: u187 :: u188 :: u189 :: u190 :: u191 :: u192 :: u193 :: u194 :: u195 :: u196 :: u197 :: u198 :: u199 :: u200 :: u201 :: u202 :: u203 :: u204 :: u205 :: u206 :: u207 :: u208 :: u209 :: u210 :: u211 :: u212 :: u213 :: u214 :: []).toArray, []⟩ w4 := by
 have t1 : (a == ka.o.una) = false := by simpa using e1
 clear e1
 conv => arg 2; whnf
 refine wp_region_M [0,2,7] [] hM (by kernel_rfl) ?_
 clear hM
 intro wo hM
 refine tW 0 rfl ?_
 simp only [zz]
 refine tW 1 rfl ?_
 simp only [zz]
 refine tW 2 rfl ?_
 simp only [zz]
 refine tW 3 rfl ?_
 simp only [zz]
 first
 | (refine tL 4 (v := .agg (cSeg g).toArray) rfl ⟨fun r hr => hM.get 0 hr, fun r hr => hM.get 2 hr, fun r hr => hM.get 7 hr, trivial⟩ (Or.inl ⟨by rfl, ?hy⟩) ?_; (case hy => (rintro W ⟨i0, i2, i7, -⟩; have c0 := (show At W _ _ _ from i0 _ rfl).cell; have c2 := (show At W _ _ _ from i2 _ rfl).cell; have c7 := (show At W _ _ _ from i7 _ rfl).cell; (try simp only [cnC,cSeg] at c0 c2 c7); exact exec_loadw _ _ rfl gb 0 rfl (cSeg g) _ Try.underlying33 rfl sz_Seg (range_cells c7))))
 | (refine tU 4 rfl ?_)
 simp only [zz]
 refine wpI_one (i := 5) rfl (by kernel_rfl) ?_
 (try simp only [zz])
 go_wp2_with (first
   | go_skip
   | ((go_at_call 77; refine (HLN.out _ ).mono ?_; rintro e W ⟨rfl, hb⟩; replace hM := hM.kept hb; clear hb; dsimp only)))
 refine contI_normal ⟨fun r hr => hM.get 0 hr, fun r hr => hM.get 2 hr, fun r hr => hM.get 7 hr, trivial⟩ ?_
 (try simp only [zz])
 first
 | (refine tW 6 rfl ?_)
 | (refine tU 6 rfl ?_)
 simp only [zz]
 refine tW 7 rfl ?_
 simp only [zz]
 refine tW 8 rfl ?_
 simp only [zz]
 first
 | (refine tW 9 rfl ?_)
 | (refine tU 9 rfl ?_)
 simp only [zz]
 first
 | (refine tW 10 rfl ?_)
 | (refine tU 10 rfl ?_)
 simp only [zz]
 first
 | (refine tW 11 rfl ?_)
 | (refine tU 11 rfl ?_)
 simp only [zz]
 first
 | (refine tL 12 (v := ?_) rfl ⟨fun r hr => hM.get 0 hr, fun r hr => hM.get 2 hr, fun r hr => hM.get 7 hr, trivial⟩ (Or.inl ⟨by rfl, ?hy⟩) ?_; (case hy => (rintro W ⟨i0, i2, i7, -⟩; have c0 := (show At W _ _ _ from i0 _ rfl).cell; have c2 := (show At W _ _ _ from i2 _ rfl).cell; have c7 := (show At W _ _ _ from i7 _ rfl).cell; (try simp only [cnC,cSeg] at c0 c2 c7); go_simp; (try with_reducible rfl))))
 | (refine tL 12 (v := undef) rfl ⟨fun r hr => hM.get 0 hr, fun r hr => hM.get 2 hr, fun r hr => hM.get 7 hr, trivial⟩ (Or.inr ⟨by rfl, rfl⟩) ?_)
 simp only [zz]
 first
 | (refine wpI_takeC (i := 13) rfl (by kernel_rfl) (by kernel_rfl) (by kernel_rfl) (by kernel_rfl) (by first | exact fun _ _ _ h => h | exact fun _ _ _ h => HQ0.out _ _ _ _ _ h) ⟨fun r hr => hM.get 0 hr, fun r hr => hM.get 2 hr, fun r hr => hM.get 7 hr, trivial⟩ ⟨by rfl, fun W hW => ⟨_, _, by (go_simp; first | done | rfl), (Cur_any k.go ka.o k.vo W (hW.1 _ rfl))⟩⟩ ?_)
 | (refine tU 13 rfl ?_)
 simp only [zz]
 first
 | (refine tW 14 rfl ?_)
 | (refine tU 14 rfl ?_)
 simp only [zz]
 first
 | (refine tW 15 rfl ?_)
 | (refine tU 15 rfl ?_)
 simp only [zz]
 refine tW 16 rfl ?_
 simp only [zz]
 refine tW 17 rfl ?_
 simp only [zz]
 first
 | (refine tW 18 rfl ?_)
 | (refine tU 18 rfl ?_)
 simp only [zz]
 first
 | (refine tL 19 (v := ?_) rfl ⟨fun r hr => hM.get 0 hr, fun r hr => hM.get 2 hr, fun r hr => hM.get 7 hr, trivial⟩ (Or.inl ⟨by rfl, ?hy⟩) ?_; (case hy => (rintro W ⟨i0, i2, i7, -⟩; have c0 := (show At W _ _ _ from i0 _ rfl).cell; have c2 := (show At W _ _ _ from i2 _ rfl).cell; have c7 := (show At W _ _ _ from i7 _ rfl).cell; (try simp only [cnC,cSeg] at c0 c2 c7); go_simp; (try with_reducible rfl))))
 | (refine tL 19 (v := undef) rfl ⟨fun r hr => hM.get 0 hr, fun r hr => hM.get 2 hr, fun r hr => hM.get 7 hr, trivial⟩ (Or.inr ⟨by rfl, rfl⟩) ?_)
 simp only [zz]
 first
 | (refine tW 20 rfl ?_)
 | (refine tU 20 rfl ?_)
 simp only [zz]
 first
 | (refine tW 21 rfl ?_)
 | (refine tU 21 rfl ?_)
 simp only [zz]
 first
 | (refine tW 22 rfl ?_)
 | (refine tU 22 rfl ?_)
 simp only [zz]
 first
 | (refine tL 23 (v := ?_) rfl ⟨fun r hr => hM.get 0 hr, fun r hr => hM.get 2 hr, fun r hr => hM.get 7 hr, trivial⟩ (Or.inl ⟨by rfl, ?hy⟩) ?_; (case hy => (rintro W ⟨i0, i2, i7, -⟩; have c0 := (show At W _ _ _ from i0 _ rfl).cell; have c2 := (show At W _ _ _ from i2 _ rfl).cell; have c7 := (show At W _ _ _ from i7 _ rfl).cell; (try simp only [cnC,cSeg] at c0 c2 c7); go_simp; (try with_reducible rfl))))
 | (refine tL 23 (v := undef) rfl ⟨fun r hr => hM.get 0 hr, fun r hr => hM.get 2 hr, fun r hr => hM.get 7 hr, trivial⟩ (Or.inr ⟨by rfl, rfl⟩) ?_)
 simp only [zz]
 first
 | (refine tW 24 rfl ?_)
 | (refine tU 24 rfl ?_)
 simp only [zz]
 refine tW 25 rfl ?_
 simp only [zz]
 refine wpI_done (by kernel_rfl) ?_ _
 (try simp only [zz])
 exact hK _ _ _ _ _ _ _ _ _ _ _ _ _ _ _ _ _ _ _ _ _ _ _ _ _ _ hM
set_option maxRecDepth 100000 in
set_option maxHeartbeats 8000000 in
theorem ak16_1 (e1 : a = ka.o.una) (e2 : ¬ sl = 0)
  (hK : ∀ (v82 v83 v84 v85 v86 v87 v88 v89 v90 v91 v92 v93 v94 v95 v96 v97 v98 v99 v100 v101 v102 v103 v104 v105 v106 : Value) (W : World), MemX E w0 W (oqA k.go ka.o k.vo :: oqB ka.o k.vo :: cnA gc ka k :: tmR k.gt ka.tm :: rsR k.vr ka.rs :: iqR gi q :: wdR gw d :: atR gb 33 (cSeg g) :: m) → K ⟨(.pointer (some ⟨gc, 0, none⟩) :: u1 :: u2 :: u3 :: .pointer (some ⟨gb, 0, none⟩) :: u5 :: u6 :: .int .i64 a :: .int .i64 ka.o.una :: u9 :: u10 :: u11 :: u12 :: u13 :: u14 :: u15 :: u16 :: u17 :: u18 :: u19 :: u20 :: u21 :: u22 :: u23 :: u24 :: u25 :: u26 :: u27 :: u28 :: u29 :: u30 :: u31 :: u32 :: u33 :: u34 :: u35 :: u36 :: u37 :: u38 :: u39 :: u40 :: u41 :: u42 :: u43 :: u44 :: u45 :: u46 :: u47 :: u48 :: u49 :: u50 :: u51 :: u52 :: u53 :: u54 :: u55 :: u56 :: u57 :: u58 :: u59 :: u60 :: u61 :: u62 :: u63 :: u64 :: u65 :: u66 :: u67 :: u68 :: u69 :: u70 :: u71 :: u72 :: u73 :: u74 :: u75 :: u76 :: u77 :: u78 :: u79 :: u80 :: u81 :: v82 :: v83 :: v84 :: v85 :: v86 :: v87 :: v88 :: v89 :: v90 :: v91 :: v92 :: v93 :: v94 :: v95 :: v96 :: v97 :: v98 :: v99 :: v100 :: v101 :: v102 :: v103 :: v104 :: v105 :: v106 :: .bool false :: u108 :: u109 :: u110 :: u111 :: u112 :: u113 :: u114 :: u115 :: u116 :: u117 :: u118 :: u119 :: u120 :: u121 :: u122 :: u123 :: u124 :: u125 :: u126 :: u127 :: u128 :: u129 :: u130 :: u131 :: u132 :: u133 :: u134 :: u135 :: u136 :: u137 :: u138 :: u139 :: u140 :: u141 :: u142 :: u143 :: u144 :: u145 :: u146 :: u147 :: u148 :: u149 :: u150 :: u151 :: u152 :: u153 :: u154 :: u155 :: u156 :: u157 :: u158 :: u159 :: u160 :: u161 :: u162 :: u163 :: u164 :: u165 :: u166 :: u167 :: u168 :: u169 :: u170 :: u171 :: u172 :: u173 :: u174 :: u175 :: u176 :: u177 :: u178 :: u179 :: u180 :: u181 :: u182 :: u183 :: u184 :: u185 :: u186 :: u187 :: u188 :: u189 :: u190 :: u191 :: u192 :: u193 :: u194 :: u195 :: u196 :: u197 :: u198 :: u199 :: u200 :: u201 :: u202 :: u203 :: u204 :: u205 :: u206 :: u207 :: u208 :: u209 :: u210 :: u211 :: u212 :: u213 :: u214 :: []).toArray, []⟩ W) : Code.wp Try.prog ak16C (Exit.then K Q0) ⟨(.pointer (some ⟨gc, 0, none⟩) :: u1 :: u2 :: u3 :: .pointer (some ⟨gb, 0, none⟩) :: u5 :: u6 :: .int .i64 a :: .int .i64 ka.o.una :: u9 :: u10 :: u11 :: u12 :: u13 :: u14 :: u15 :: u16 :: u17 :: u18 :: u19 :: u20 :: u21 :: u22 :: u23 :: u24 :: u25 :: u26 :: u27 :: u28 :: u29 :: u30 :: u31 :: u32 :: u33 :: u34 :: u35 :: u36 :: u37 :: u38 :: u39 :: u40 :: u41 :: u42 :: u43 :: u44 :: u45 :: u46 :: u47 :: u48 :: u49 :: u50 :: u51 :: u52 :: u53 :: u54 :: u55 :: u56 :: u57 :: u58 :: u59 :: u60 :: u61 :: u62 :: u63 :: u64 :: u65 :: u66 :: u67 :: u68 :: u69 :: u70 :: u71 :: u72 :: u73 :: u74 :: u75 :: u76 :: u77 :: u78 :: u79 :: u80 :: u81 :: u82 :: u83 :: u84 :: u85 :: u86 :: u87 :: u88 :: u89 :: u90 :: u91 :: u92 :: u93 :: u94 :: u95 :: u96 :: u97 :: u98 :: u99 :: u100 :: u101 :: u102 :: u103 :: u104 :: u105 :: u106 :: u107 :: u108 :: u109 :: u110 :: u111 :: u112 :: u113 :: u114 :: u115 :: u116 :: u117 :: u118 :: u119 :: u120 :: u121 :: u122 :: u123 :: u124 :: u125 :: u126 :: u127 :: u128 :: u129 :: u130 :: u131 :: u132 :: u133 :: u134 :: u135 :: u136 :: u137 :: u138 :: u139 :: u140 :: u141 :: u142 :: u143 :: u144 :: u145 :: u146 :: u147 :: u148 :: u149 :: u150 :: u151 :: u152 :: u153 :: u154 :: u155 :: u156 :: u157 :: u158 :: u159 :: u160 :: u161 :: u162 :: u163 :: u164 :: u165 :: u166 :: u167 :: u168 :: u169 :: u170 :: u171 :: u172 :: u173 :: u174 :: u175 :: u176 :: u177 :: u178 :: u179 :: u180 :: u181 :: u182 :: u183 :: u184 :: u185 :: u186 :: u187 :: u188 :: u189 :: u190 :: u191 :: u192 :: u193 :: u194 :: u195 :: u196 :: u197 :: u198 :: u199 :: u200 :: u201 :: u202 :: u203 :: u204 :: u205 :: u206 :: u207 :: u208 :: u209 :: u210 :: u211 :: u212 :: u213 :: u214 :: []).toArray, []⟩ w4 := by
 have t1 : (a == ka.o.una) = true := by simpa using e1
 have t2 : (sl == 0) = false := by simpa using e2
 clear e1 e2
 conv => arg 2; whnf
 refine wp_region_M [0,2,7] [] hM (by kernel_rfl) ?_
 clear hM
 intro wo hM
 refine tW 0 rfl ?_
 simp only [zz]
 refine tW 1 rfl ?_
 simp only [zz]
 refine tW 2 rfl ?_
 simp only [zz]
 refine tW 3 rfl ?_
 simp only [zz]
 first
 | (refine tL 4 (v := .agg (cSeg g).toArray) rfl ⟨fun r hr => hM.get 0 hr, fun r hr => hM.get 2 hr, fun r hr => hM.get 7 hr, trivial⟩ (Or.inl ⟨by rfl, ?hy⟩) ?_; (case hy => (rintro W ⟨i0, i2, i7, -⟩; have c0 := (show At W _ _ _ from i0 _ rfl).cell; have c2 := (show At W _ _ _ from i2 _ rfl).cell; have c7 := (show At W _ _ _ from i7 _ rfl).cell; (try simp only [cnC,cSeg] at c0 c2 c7); exact exec_loadw _ _ rfl gb 0 rfl (cSeg g) _ Try.underlying33 rfl sz_Seg (range_cells c7))))
 | (refine tU 4 rfl ?_)
 simp only [zz]
 refine wpI_one (i := 5) rfl (by kernel_rfl) ?_
 (try simp only [zz])
 go_wp2_with (first
   | go_skip
   | ((go_at_call 77; refine (HLN.out _ ).mono ?_; rintro e W ⟨rfl, hb⟩; replace hM := hM.kept hb; clear hb; dsimp only)))
 refine contI_normal ⟨fun r hr => hM.get 0 hr, fun r hr => hM.get 2 hr, fun r hr => hM.get 7 hr, trivial⟩ ?_
 (try simp only [zz])
 first
 | (refine tW 6 rfl ?_)
 | (refine tU 6 rfl ?_)
 simp only [zz]
 refine tW 7 rfl ?_
 simp only [zz]
 refine tW 8 rfl ?_
 simp only [zz]
 first
 | (refine tW 9 rfl ?_)
 | (refine tU 9 rfl ?_)
 simp only [zz]
 first
 | (refine tW 10 rfl ?_)
 | (refine tU 10 rfl ?_)
 simp only [zz]
 first
 | (refine tW 11 rfl ?_)
 | (refine tU 11 rfl ?_)
 simp only [zz]
 first
 | (refine tL 12 (v := ?_) rfl ⟨fun r hr => hM.get 0 hr, fun r hr => hM.get 2 hr, fun r hr => hM.get 7 hr, trivial⟩ (Or.inl ⟨by rfl, ?hy⟩) ?_; (case hy => (rintro W ⟨i0, i2, i7, -⟩; have c0 := (show At W _ _ _ from i0 _ rfl).cell; have c2 := (show At W _ _ _ from i2 _ rfl).cell; have c7 := (show At W _ _ _ from i7 _ rfl).cell; (try simp only [cnC,cSeg] at c0 c2 c7); go_simp; (try with_reducible rfl))))
 | (refine tL 12 (v := undef) rfl ⟨fun r hr => hM.get 0 hr, fun r hr => hM.get 2 hr, fun r hr => hM.get 7 hr, trivial⟩ (Or.inr ⟨by rfl, rfl⟩) ?_)
 simp only [zz]
 first
 | (refine wpI_takeC (i := 13) rfl (by kernel_rfl) (by kernel_rfl) (by kernel_rfl) (by kernel_rfl) (by first | exact fun _ _ _ h => h | exact fun _ _ _ h => HQ0.out _ _ _ _ _ h) ⟨fun r hr => hM.get 0 hr, fun r hr => hM.get 2 hr, fun r hr => hM.get 7 hr, trivial⟩ ⟨by rfl, fun W hW => ⟨_, _, by (go_simp; first | done | rfl), (Cur_any k.go ka.o k.vo W (hW.1 _ rfl))⟩⟩ ?_)
 | (refine tU 13 rfl ?_)
 simp only [zz]
 first
 | (refine tW 14 rfl ?_)
 | (refine tU 14 rfl ?_)
 simp only [zz]
 first
 | (refine tW 15 rfl ?_)
 | (refine tU 15 rfl ?_)
 simp only [zz]
 refine tW 16 rfl ?_
 simp only [zz]
 refine tW 17 rfl ?_
 simp only [zz]
 first
 | (refine tW 18 rfl ?_)
 | (refine tU 18 rfl ?_)
 simp only [zz]
 first
 | (refine tL 19 (v := ?_) rfl ⟨fun r hr => hM.get 0 hr, fun r hr => hM.get 2 hr, fun r hr => hM.get 7 hr, trivial⟩ (Or.inl ⟨by rfl, ?hy⟩) ?_; (case hy => (rintro W ⟨i0, i2, i7, -⟩; have c0 := (show At W _ _ _ from i0 _ rfl).cell; have c2 := (show At W _ _ _ from i2 _ rfl).cell; have c7 := (show At W _ _ _ from i7 _ rfl).cell; (try simp only [cnC,cSeg] at c0 c2 c7); go_simp; (try with_reducible rfl))))
 | (refine tL 19 (v := undef) rfl ⟨fun r hr => hM.get 0 hr, fun r hr => hM.get 2 hr, fun r hr => hM.get 7 hr, trivial⟩ (Or.inr ⟨by rfl, rfl⟩) ?_)
 simp only [zz]
 first
 | (refine tW 20 rfl ?_)
 | (refine tU 20 rfl ?_)
 simp only [zz]
 first
 | (refine tW 21 rfl ?_)
 | (refine tU 21 rfl ?_)
 simp only [zz]
 first
 | (refine tW 22 rfl ?_)
 | (refine tU 22 rfl ?_)
 simp only [zz]
 first
 | (refine tL 23 (v := ?_) rfl ⟨fun r hr => hM.get 0 hr, fun r hr => hM.get 2 hr, fun r hr => hM.get 7 hr, trivial⟩ (Or.inl ⟨by rfl, ?hy⟩) ?_; (case hy => (rintro W ⟨i0, i2, i7, -⟩; have c0 := (show At W _ _ _ from i0 _ rfl).cell; have c2 := (show At W _ _ _ from i2 _ rfl).cell; have c7 := (show At W _ _ _ from i7 _ rfl).cell; (try simp only [cnC,cSeg] at c0 c2 c7); go_simp; (try with_reducible rfl))))
 | (refine tL 23 (v := undef) rfl ⟨fun r hr => hM.get 0 hr, fun r hr => hM.get 2 hr, fun r hr => hM.get 7 hr, trivial⟩ (Or.inr ⟨by rfl, rfl⟩) ?_)
 simp only [zz]
 first
 | (refine tW 24 rfl ?_)
 | (refine tU 24 rfl ?_)
 simp only [zz]
 refine tW 25 rfl ?_
 simp only [zz]
 refine wpI_done (by kernel_rfl) ?_ _
 (try simp only [zz])
 exact hK _ _ _ _ _ _ _ _ _ _ _ _ _ _ _ _ _ _ _ _ _ _ _ _ _ _ hM
set_option maxRecDepth 100000 in
set_option maxHeartbeats 8000000 in
theorem ak16_2 (e1 : a = ka.o.una) (e2 : sl = 0) (e3 : ¬ ka.o.una < ka.o.cur)
  (hK : ∀ (v82 v83 v84 v85 v86 v87 v88 v89 v90 v91 v92 v93 v94 v95 v96 v97 v98 v99 v100 v101 v102 v103 v104 v105 v106 : Value) (W : World), MemX E w0 W (oqA k.go ka.o k.vo :: oqB ka.o k.vo :: cnA gc ka k :: tmR k.gt ka.tm :: rsR k.vr ka.rs :: iqR gi q :: wdR gw d :: atR gb 33 (cSeg g) :: m) → K ⟨(.pointer (some ⟨gc, 0, none⟩) :: u1 :: u2 :: u3 :: .pointer (some ⟨gb, 0, none⟩) :: u5 :: u6 :: .int .i64 a :: .int .i64 ka.o.una :: u9 :: u10 :: u11 :: u12 :: u13 :: u14 :: u15 :: u16 :: u17 :: u18 :: u19 :: u20 :: u21 :: u22 :: u23 :: u24 :: u25 :: u26 :: u27 :: u28 :: u29 :: u30 :: u31 :: u32 :: u33 :: u34 :: u35 :: u36 :: u37 :: u38 :: u39 :: u40 :: u41 :: u42 :: u43 :: u44 :: u45 :: u46 :: u47 :: u48 :: u49 :: u50 :: u51 :: u52 :: u53 :: u54 :: u55 :: u56 :: u57 :: u58 :: u59 :: u60 :: u61 :: u62 :: u63 :: u64 :: u65 :: u66 :: u67 :: u68 :: u69 :: u70 :: u71 :: u72 :: u73 :: u74 :: u75 :: u76 :: u77 :: u78 :: u79 :: u80 :: u81 :: v82 :: v83 :: v84 :: v85 :: v86 :: v87 :: v88 :: v89 :: v90 :: v91 :: v92 :: v93 :: v94 :: v95 :: v96 :: v97 :: v98 :: v99 :: v100 :: v101 :: v102 :: v103 :: v104 :: v105 :: v106 :: .bool false :: u108 :: u109 :: u110 :: u111 :: u112 :: u113 :: u114 :: u115 :: u116 :: u117 :: u118 :: u119 :: u120 :: u121 :: u122 :: u123 :: u124 :: u125 :: u126 :: u127 :: u128 :: u129 :: u130 :: u131 :: u132 :: u133 :: u134 :: u135 :: u136 :: u137 :: u138 :: u139 :: u140 :: u141 :: u142 :: u143 :: u144 :: u145 :: u146 :: u147 :: u148 :: u149 :: u150 :: u151 :: u152 :: u153 :: u154 :: u155 :: u156 :: u157 :: u158 :: u159 :: u160 :: u161 :: u162 :: u163 :: u164 :: u165 :: u166 :: u167 :: u168 :: u169 :: u170 :: u171 :: u172 :: u173 :: u174 :: u175 :: u176 :: u177 :: u178 :: u179 :: u180 :: u181 :: u182 :: u183 :: u184 :: u185 :: u186 :: u187 :: u188 :: u189 :: u190 :: u191 :: u192 :: u193 :: u194 :: u195 :: u196 :: u197 :: u198 :: u199 :: u200 :: u201 :: u202 :: u203 :: u204 :: u205 :: u206 :: u207 :: u208 :: u209 :: u210 :: u211 :: u212 :: u213 :: u214 :: []).toArray, []⟩ W) : Code.wp Try.prog ak16C (Exit.then K Q0) ⟨(.pointer (some ⟨gc, 0, none⟩) :: u1 :: u2 :: u3 :: .pointer (some ⟨gb, 0, none⟩) :: u5 :: u6 :: .int .i64 a :: .int .i64 ka.o.una :: u9 :: u10 :: u11 :: u12 :: u13 :: u14 :: u15 :: u16 :: u17 :: u18 :: u19 :: u20 :: u21 :: u22 :: u23 :: u24 :: u25 :: u26 :: u27 :: u28 :: u29 :: u30 :: u31 :: u32 :: u33 :: u34 :: u35 :: u36 :: u37 :: u38 :: u39 :: u40 :: u41 :: u42 :: u43 :: u44 :: u45 :: u46 :: u47 :: u48 :: u49 :: u50 :: u51 :: u52 :: u53 :: u54 :: u55 :: u56 :: u57 :: u58 :: u59 :: u60 :: u61 :: u62 :: u63 :: u64 :: u65 :: u66 :: u67 :: u68 :: u69 :: u70 :: u71 :: u72 :: u73 :: u74 :: u75 :: u76 :: u77 :: u78 :: u79 :: u80 :: u81 :: u82 :: u83 :: u84 :: u85 :: u86 :: u87 :: u88 :: u89 :: u90 :: u91 :: u92 :: u93 :: u94 :: u95 :: u96 :: u97 :: u98 :: u99 :: u100 :: u101 :: u102 :: u103 :: u104 :: u105 :: u106 :: u107 :: u108 :: u109 :: u110 :: u111 :: u112 :: u113 :: u114 :: u115 :: u116 :: u117 :: u118 :: u119 :: u120 :: u121 :: u122 :: u123 :: u124 :: u125 :: u126 :: u127 :: u128 :: u129 :: u130 :: u131 :: u132 :: u133 :: u134 :: u135 :: u136 :: u137 :: u138 :: u139 :: u140 :: u141 :: u142 :: u143 :: u144 :: u145 :: u146 :: u147 :: u148 :: u149 :: u150 :: u151 :: u152 :: u153 :: u154 :: u155 :: u156 :: u157 :: u158 :: u159 :: u160 :: u161 :: u162 :: u163 :: u164 :: u165 :: u166 :: u167 :: u168 :: u169 :: u170 :: u171 :: u172 :: u173 :: u174 :: u175 :: u176 :: u177 :: u178 :: u179 :: u180 :: u181 :: u182 :: u183 :: u184 :: u185 :: u186 :: u187 :: u188 :: u189 :: u190 :: u191 :: u192 :: u193 :: u194 :: u195 :: u196 :: u197 :: u198 :: u199 :: u200 :: u201 :: u202 :: u203 :: u204 :: u205 :: u206 :: u207 :: u208 :: u209 :: u210 :: u211 :: u212 :: u213 :: u214 :: []).toArray, []⟩ w4 := by
 have t1 : (a == ka.o.una) = true := by simpa using e1
 have t2 : (sl == 0) = true := by simpa using e2
 have t3 : decide (ka.o.una < ka.o.cur) = false := by simpa using e3
 clear e1 e2 e3
 conv => arg 2; whnf
 refine wp_region_M [0,2,7] [] hM (by kernel_rfl) ?_
 clear hM
 intro wo hM
 refine tW 0 rfl ?_
 simp only [zz]
 refine tW 1 rfl ?_
 simp only [zz]
 refine tW 2 rfl ?_
 simp only [zz]
 refine tW 3 rfl ?_
 simp only [zz]
 first
 | (refine tL 4 (v := .agg (cSeg g).toArray) rfl ⟨fun r hr => hM.get 0 hr, fun r hr => hM.get 2 hr, fun r hr => hM.get 7 hr, trivial⟩ (Or.inl ⟨by rfl, ?hy⟩) ?_; (case hy => (rintro W ⟨i0, i2, i7, -⟩; have c0 := (show At W _ _ _ from i0 _ rfl).cell; have c2 := (show At W _ _ _ from i2 _ rfl).cell; have c7 := (show At W _ _ _ from i7 _ rfl).cell; (try simp only [cnC,cSeg] at c0 c2 c7); exact exec_loadw _ _ rfl gb 0 rfl (cSeg g) _ Try.underlying33 rfl sz_Seg (range_cells c7))))
 | (refine tU 4 rfl ?_)
 simp only [zz]
 refine wpI_one (i := 5) rfl (by kernel_rfl) ?_
 (try simp only [zz])
 go_wp2_with (first
   | go_skip
   | ((go_at_call 77; refine (HLN.out _ ).mono ?_; rintro e W ⟨rfl, hb⟩; replace hM := hM.kept hb; clear hb; dsimp only)))
 refine contI_normal ⟨fun r hr => hM.get 0 hr, fun r hr => hM.get 2 hr, fun r hr => hM.get 7 hr, trivial⟩ ?_
 (try simp only [zz])
 first
 | (refine tW 6 rfl ?_)
 | (refine tU 6 rfl ?_)
 simp only [zz]
 refine tW 7 rfl ?_
 simp only [zz]
 refine tW 8 rfl ?_
 simp only [zz]
 first
 | (refine tW 9 rfl ?_)
 | (refine tU 9 rfl ?_)
 simp only [zz]
 first
 | (refine tW 10 rfl ?_)
 | (refine tU 10 rfl ?_)
 simp only [zz]
 first
 | (refine tW 11 rfl ?_)
 | (refine tU 11 rfl ?_)
 simp only [zz]
 first
 | (refine tL 12 (v := ?_) rfl ⟨fun r hr => hM.get 0 hr, fun r hr => hM.get 2 hr, fun r hr => hM.get 7 hr, trivial⟩ (Or.inl ⟨by rfl, ?hy⟩) ?_; (case hy => (rintro W ⟨i0, i2, i7, -⟩; have c0 := (show At W _ _ _ from i0 _ rfl).cell; have c2 := (show At W _ _ _ from i2 _ rfl).cell; have c7 := (show At W _ _ _ from i7 _ rfl).cell; (try simp only [cnC,cSeg] at c0 c2 c7); go_simp; (try with_reducible rfl))))
 | (refine tL 12 (v := undef) rfl ⟨fun r hr => hM.get 0 hr, fun r hr => hM.get 2 hr, fun r hr => hM.get 7 hr, trivial⟩ (Or.inr ⟨by rfl, rfl⟩) ?_)
 simp only [zz]
 first
 | (refine wpI_takeC (i := 13) rfl (by kernel_rfl) (by kernel_rfl) (by kernel_rfl) (by kernel_rfl) (by first | exact fun _ _ _ h => h | exact fun _ _ _ h => HQ0.out _ _ _ _ _ h) ⟨fun r hr => hM.get 0 hr, fun r hr => hM.get 2 hr, fun r hr => hM.get 7 hr, trivial⟩ ⟨by rfl, fun W hW => ⟨_, _, by (go_simp; first | done | rfl), (Cur_any k.go ka.o k.vo W (hW.1 _ rfl))⟩⟩ ?_)
 | (refine tU 13 rfl ?_)
 simp only [zz]
 first
 | (refine tW 14 rfl ?_)
 | (refine tU 14 rfl ?_)
 simp only [zz]
 first
 | (refine tW 15 rfl ?_)
 | (refine tU 15 rfl ?_)
 simp only [zz]
 refine tW 16 rfl ?_
 simp only [zz]
 refine tW 17 rfl ?_
 simp only [zz]
 first
 | (refine tW 18 rfl ?_)
 | (refine tU 18 rfl ?_)
 simp only [zz]
 first
 | (refine tL 19 (v := ?_) rfl ⟨fun r hr => hM.get 0 hr, fun r hr => hM.get 2 hr, fun r hr => hM.get 7 hr, trivial⟩ (Or.inl ⟨by rfl, ?hy⟩) ?_; (case hy => (rintro W ⟨i0, i2, i7, -⟩; have c0 := (show At W _ _ _ from i0 _ rfl).cell; have c2 := (show At W _ _ _ from i2 _ rfl).cell; have c7 := (show At W _ _ _ from i7 _ rfl).cell; (try simp only [cnC,cSeg] at c0 c2 c7); go_simp; (try with_reducible rfl))))
 | (refine tL 19 (v := undef) rfl ⟨fun r hr => hM.get 0 hr, fun r hr => hM.get 2 hr, fun r hr => hM.get 7 hr, trivial⟩ (Or.inr ⟨by rfl, rfl⟩) ?_)
 simp only [zz]
 first
 | (refine tW 20 rfl ?_)
 | (refine tU 20 rfl ?_)
 simp only [zz]
 first
 | (refine tW 21 rfl ?_)
 | (refine tU 21 rfl ?_)
 simp only [zz]
 first
 | (refine tW 22 rfl ?_)
 | (refine tU 22 rfl ?_)
 simp only [zz]
 first
 | (refine tL 23 (v := ?_) rfl ⟨fun r hr => hM.get 0 hr, fun r hr => hM.get 2 hr, fun r hr => hM.get 7 hr, trivial⟩ (Or.inl ⟨by rfl, ?hy⟩) ?_; (case hy => (rintro W ⟨i0, i2, i7, -⟩; have c0 := (show At W _ _ _ from i0 _ rfl).cell; have c2 := (show At W _ _ _ from i2 _ rfl).cell; have c7 := (show At W _ _ _ from i7 _ rfl).cell; (try simp only [cnC,cSeg] at c0 c2 c7); go_simp; (try with_reducible rfl))))
 | (refine tL 23 (v := undef) rfl ⟨fun r hr => hM.get 0 hr, fun r hr => hM.get 2 hr, fun r hr => hM.get 7 hr, trivial⟩ (Or.inr ⟨by rfl, rfl⟩) ?_)
 simp only [zz]
 first
 | (refine tW 24 rfl ?_)
 | (refine tU 24 rfl ?_)
 simp only [zz]
 refine tW 25 rfl ?_
 simp only [zz]
 refine wpI_done (by kernel_rfl) ?_ _
 (try simp only [zz])
 exact hK _ _ _ _ _ _ _ _ _ _ _ _ _ _ _ _ _ _ _ _ _ _ _ _ _ _ hM
set_option maxRecDepth 100000 in
set_option maxHeartbeats 8000000 in
theorem ak16_3 (e1 : a = ka.o.una) (e2 : sl = 0) (e3 : ka.o.una < ka.o.cur) (e4 : ¬ g.win = ka.wnd)
  (hK : ∀ (v82 v83 v84 v85 v86 v87 v88 v89 v90 v91 v92 v93 v94 v95 v96 v97 v98 v99 v100 v101 v102 v103 v104 v105 v106 : Value) (W : World), MemX E w0 W (oqA k.go ka.o k.vo :: oqB ka.o k.vo :: cnA gc ka k :: tmR k.gt ka.tm :: rsR k.vr ka.rs :: iqR gi q :: wdR gw d :: atR gb 33 (cSeg g) :: m) → K ⟨(.pointer (some ⟨gc, 0, none⟩) :: u1 :: u2 :: u3 :: .pointer (some ⟨gb, 0, none⟩) :: u5 :: u6 :: .int .i64 a :: .int .i64 ka.o.una :: u9 :: u10 :: u11 :: u12 :: u13 :: u14 :: u15 :: u16 :: u17 :: u18 :: u19 :: u20 :: u21 :: u22 :: u23 :: u24 :: u25 :: u26 :: u27 :: u28 :: u29 :: u30 :: u31 :: u32 :: u33 :: u34 :: u35 :: u36 :: u37 :: u38 :: u39 :: u40 :: u41 :: u42 :: u43 :: u44 :: u45 :: u46 :: u47 :: u48 :: u49 :: u50 :: u51 :: u52 :: u53 :: u54 :: u55 :: u56 :: u57 :: u58 :: u59 :: u60 :: u61 :: u62 :: u63 :: u64 :: u65 :: u66 :: u67 :: u68 :: u69 :: u70 :: u71 :: u72 :: u73 :: u74 :: u75 :: u76 :: u77 :: u78 :: u79 :: u80 :: u81 :: v82 :: v83 :: v84 :: v85 :: v86 :: v87 :: v88 :: v89 :: v90 :: v91 :: v92 :: v93 :: v94 :: v95 :: v96 :: v97 :: v98 :: v99 :: v100 :: v101 :: v102 :: v103 :: v104 :: v105 :: v106 :: .bool false :: u108 :: u109 :: u110 :: u111 :: u112 :: u113 :: u114 :: u115 :: u116 :: u117 :: u118 :: u119 :: u120 :: u121 :: u122 :: u123 :: u124 :: u125 :: u126 :: u127 :: u128 :: u129 :: u130 :: u131 :: u132 :: u133 :: u134 :: u135 :: u136 :: u137 :: u138 :: u139 :: u140 :: u141 :: u142 :: u143 :: u144 :: u145 :: u146 :: u147 :: u148 :: u149 :: u150 :: u151 :: u152 :: u153 :: u154 :: u155 :: u156 :: u157 :: u158 :: u159 :: u160 :: u161 :: u162 :: u163 :: u164 :: u165 :: u166 :: u167 :: u168 :: u169 :: u170 :: u171 :: u172 :: u173 :: u174 :: u175 :: u176 :: u177 :: u178 :: u179 :: u180 :: u181 :: u182 :: u183 :: u184 :: u185 :: u186 :: u187 :: u188 :: u189 :: u190 :: u191 :: u192 :: u193 :: u194 :: u195 :: u196 :: u197 :: u198 :: u199 :: u200 :: u201 :: u202 :: u203 :: u204 :: u205 :: u206 :: u207 :: u208 :: u209 :: u210 :: u211 :: u212 :: u213 :: u214 :: []).toArray, []⟩ W) : Code.wp Try.prog ak16C (Exit.then K Q0) ⟨(.pointer (some ⟨gc, 0, none⟩) :: u1 :: u2 :: u3 :: .pointer (some ⟨gb, 0, none⟩) :: u5 :: u6 :: .int .i64 a :: .int .i64 ka.o.una :: u9 :: u10 :: u11 :: u12 :: u13 :: u14 :: u15 :: u16 :: u17 :: u18 :: u19 :: u20 :: u21 :: u22 :: u23 :: u24 :: u25 :: u26 :: u27 :: u28 :: u29 :: u30 :: u31 :: u32 :: u33 :: u34 :: u35 :: u36 :: u37 :: u38 :: u39 :: u40 :: u41 :: u42 :: u43 :: u44 :: u45 :: u46 :: u47 :: u48 :: u49 :: u50 :: u51 :: u52 :: u53 :: u54 :: u55 :: u56 :: u57 :: u58 :: u59 :: u60 :: u61 :: u62 :: u63 :: u64 :: u65 :: u66 :: u67 :: u68 :: u69 :: u70 :: u71 :: u72 :: u73 :: u74 :: u75 :: u76 :: u77 :: u78 :: u79 :: u80 :: u81 :: u82 :: u83 :: u84 :: u85 :: u86 :: u87 :: u88 :: u89 :: u90 :: u91 :: u92 :: u93 :: u94 :: u95 :: u96 :: u97 :: u98 :: u99 :: u100 :: u101 :: u102 :: u103 :: u104 :: u105 :: u106 :: u107 :: u108 :: u109 :: u110 :: u111 :: u112 :: u113 :: u114 :: u115 :: u116 :: u117 :: u118 :: u119 :: u120 :: u121 :: u122 :: u123 :: u124 :: u125 :: u126 :: u127 :: u128 :: u129 :: u130 :: u131 :: u132 :: u133 :: u134 :: u135 :: u136 :: u137 :: u138 :: u139 :: u140 :: u141 :: u142 :: u143 :: u144 :: u145 :: u146 :: u147 :: u148 :: u149 :: u150 :: u151 :: u152 :: u153 :: u154 :: u155 :: u156 :: u157 :: u158 :: u159 :: u160 :: u161 :: u162 :: u163 :: u164 :: u165 :: u166 :: u167 :: u168 :: u169 :: u170 :: u171 :: u172 :: u173 :: u174 :: u175 :: u176 :: u177 :: u178 :: u179 :: u180 :: u181 :: u182 :: u183 :: u184 :: u185 :: u186 :: u187 :: u188 :: u189 :: u190 :: u191 :: u192 :: u193 :: u194 :: u195 :: u196 :: u197 :: u198 :: u199 :: u200 :: u201 :: u202 :: u203 :: u204 :: u205 :: u206 :: u207 :: u208 :: u209 :: u210 :: u211 :: u212 :: u213 :: u214 :: []).toArray, []⟩ w4 := by
 have t1 : (a == ka.o.una) = true := by simpa using e1
 have t2 : (sl == 0) = true := by simpa using e2
 have t3 : decide (ka.o.una < ka.o.cur) = true := by simpa using e3
 have t4 : (g.win == ka.wnd) = false := by simpa using e4
 clear e1 e2 e3 e4
 conv => arg 2; whnf
 refine wp_region_M [0,2,7] [] hM (by kernel_rfl) ?_
 clear hM
 intro wo hM
 refine tW 0 rfl ?_
 simp only [zz]
 refine tW 1 rfl ?_
 simp only [zz]
 refine tW 2 rfl ?_
 simp only [zz]
 refine tW 3 rfl ?_
 simp only [zz]
 first
 | (refine tL 4 (v := .agg (cSeg g).toArray) rfl ⟨fun r hr => hM.get 0 hr, fun r hr => hM.get 2 hr, fun r hr => hM.get 7 hr, trivial⟩ (Or.inl ⟨by rfl, ?hy⟩) ?_; (case hy => (rintro W ⟨i0, i2, i7, -⟩; have c0 := (show At W _ _ _ from i0 _ rfl).cell; have c2 := (show At W _ _ _ from i2 _ rfl).cell; have c7 := (show At W _ _ _ from i7 _ rfl).cell; (try simp only [cnC,cSeg] at c0 c2 c7); exact exec_loadw _ _ rfl gb 0 rfl (cSeg g) _ Try.underlying33 rfl sz_Seg (range_cells c7))))
 | (refine tU 4 rfl ?_)
 simp only [zz]
 refine wpI_one (i := 5) rfl (by kernel_rfl) ?_
 (try simp only [zz])
 go_wp2_with (first
   | go_skip
   | ((go_at_call 77; refine (HLN.out _ ).mono ?_; rintro e W ⟨rfl, hb⟩; replace hM := hM.kept hb; clear hb; dsimp only)))
 refine contI_normal ⟨fun r hr => hM.get 0 hr, fun r hr => hM.get 2 hr, fun r hr => hM.get 7 hr, trivial⟩ ?_
 (try simp only [zz])
 first
 | (refine tW 6 rfl ?_)
 | (refine tU 6 rfl ?_)
 simp only [zz]
 refine tW 7 rfl ?_
 simp only [zz]
 refine tW 8 rfl ?_
 simp only [zz]
 first
 | (refine tW 9 rfl ?_)
 | (refine tU 9 rfl ?_)
 simp only [zz]
 first
 | (refine tW 10 rfl ?_)
 | (refine tU 10 rfl ?_)
 simp only [zz]
 first
 | (refine tW 11 rfl ?_)
 | (refine tU 11 rfl ?_)
 simp only [zz]
 first
 | (refine tL 12 (v := ?_) rfl ⟨fun r hr => hM.get 0 hr, fun r hr => hM.get 2 hr, fun r hr => hM.get 7 hr, trivial⟩ (Or.inl ⟨by rfl, ?hy⟩) ?_; (case hy => (rintro W ⟨i0, i2, i7, -⟩; have c0 := (show At W _ _ _ from i0 _ rfl).cell; have c2 := (show At W _ _ _ from i2 _ rfl).cell; have c7 := (show At W _ _ _ from i7 _ rfl).cell; (try simp only [cnC,cSeg] at c0 c2 c7); go_simp; (try with_reducible rfl))))
 | (refine tL 12 (v := undef) rfl ⟨fun r hr => hM.get 0 hr, fun r hr => hM.get 2 hr, fun r hr => hM.get 7 hr, trivial⟩ (Or.inr ⟨by rfl, rfl⟩) ?_)
 simp only [zz]
 first
 | (refine wpI_takeC (i := 13) rfl (by kernel_rfl) (by kernel_rfl) (by kernel_rfl) (by kernel_rfl) (by first | exact fun _ _ _ h => h | exact fun _ _ _ h => HQ0.out _ _ _ _ _ h) ⟨fun r hr => hM.get 0 hr, fun r hr => hM.get 2 hr, fun r hr => hM.get 7 hr, trivial⟩ ⟨by rfl, fun W hW => ⟨_, _, by (go_simp; first | done | rfl), (Cur_any k.go ka.o k.vo W (hW.1 _ rfl))⟩⟩ ?_)
 | (refine tU 13 rfl ?_)
 simp only [zz]
 first
 | (refine tW 14 rfl ?_)
 | (refine tU 14 rfl ?_)
 simp only [zz]
 first
 | (refine tW 15 rfl ?_)
 | (refine tU 15 rfl ?_)
 simp only [zz]
 refine tW 16 rfl ?_
 simp only [zz]
 refine tW 17 rfl ?_
 simp only [zz]
 first
 | (refine tW 18 rfl ?_)
 | (refine tU 18 rfl ?_)
 simp only [zz]
 first
 | (refine tL 19 (v := ?_) rfl ⟨fun r hr => hM.get 0 hr, fun r hr => hM.get 2 hr, fun r hr => hM.get 7 hr, trivial⟩ (Or.inl ⟨by rfl, ?hy⟩) ?_; (case hy => (rintro W ⟨i0, i2, i7, -⟩; have c0 := (show At W _ _ _ from i0 _ rfl).cell; have c2 := (show At W _ _ _ from i2 _ rfl).cell; have c7 := (show At W _ _ _ from i7 _ rfl).cell; (try simp only [cnC,cSeg] at c0 c2 c7); go_simp; (try with_reducible rfl))))
 | (refine tL 19 (v := undef) rfl ⟨fun r hr => hM.get 0 hr, fun r hr => hM.get 2 hr, fun r hr => hM.get 7 hr, trivial⟩ (Or.inr ⟨by rfl, rfl⟩) ?_)
 simp only [zz]
 first
 | (refine tW 20 rfl ?_)
 | (refine tU 20 rfl ?_)
 simp only [zz]
 first
 | (refine tW 21 rfl ?_)
 | (refine tU 21 rfl ?_)
 simp only [zz]
 first
 | (refine tW 22 rfl ?_)
 | (refine tU 22 rfl ?_)
 simp only [zz]
 first
 | (refine tL 23 (v := ?_) rfl ⟨fun r hr => hM.get 0 hr, fun r hr => hM.get 2 hr, fun r hr => hM.get 7 hr, trivial⟩ (Or.inl ⟨by rfl, ?hy⟩) ?_; (case hy => (rintro W ⟨i0, i2, i7, -⟩; have c0 := (show At W _ _ _ from i0 _ rfl).cell; have c2 := (show At W _ _ _ from i2 _ rfl).cell; have c7 := (show At W _ _ _ from i7 _ rfl).cell; (try simp only [cnC,cSeg] at c0 c2 c7); go_simp; (try with_reducible rfl))))
 | (refine tL 23 (v := undef) rfl ⟨fun r hr => hM.get 0 hr, fun r hr => hM.get 2 hr, fun r hr => hM.get 7 hr, trivial⟩ (Or.inr ⟨by rfl, rfl⟩) ?_)
 simp only [zz]
 first
 | (refine tW 24 rfl ?_)
 | (refine tU 24 rfl ?_)
 simp only [zz]
 refine tW 25 rfl ?_
 simp only [zz]
 refine wpI_done (by kernel_rfl) ?_ _
 (try simp only [zz])
 exact hK _ _ _ _ _ _ _ _ _ _ _ _ _ _ _ _ _ _ _ _ _ _ _ _ _ _ hM
set_option maxRecDepth 100000 in
set_option maxHeartbeats 8000000 in
theorem ak16_4 (e1 : a = ka.o.una) (e2 : sl = 0) (e3 : ka.o.una < ka.o.cur) (e4 : g.win = ka.wnd)
  (hK : ∀ (v82 v83 v84 v85 v86 v87 v88 v89 v90 v91 v92 v93 v94 v95 v96 v97 v98 v99 v100 v101 v102 v103 v104 v105 v106 : Value) (W : World), MemX E w0 W (oqA k.go ka.o k.vo :: oqB ka.o k.vo :: cnA gc ka k :: tmR k.gt ka.tm :: rsR k.vr ka.rs :: iqR gi q :: wdR gw d :: atR gb 33 (cSeg g) :: m) → K ⟨(.pointer (some ⟨gc, 0, none⟩) :: u1 :: u2 :: u3 :: .pointer (some ⟨gb, 0, none⟩) :: u5 :: u6 :: .int .i64 a :: .int .i64 ka.o.una :: u9 :: u10 :: u11 :: u12 :: u13 :: u14 :: u15 :: u16 :: u17 :: u18 :: u19 :: u20 :: u21 :: u22 :: u23 :: u24 :: u25 :: u26 :: u27 :: u28 :: u29 :: u30 :: u31 :: u32 :: u33 :: u34 :: u35 :: u36 :: u37 :: u38 :: u39 :: u40 :: u41 :: u42 :: u43 :: u44 :: u45 :: u46 :: u47 :: u48 :: u49 :: u50 :: u51 :: u52 :: u53 :: u54 :: u55 :: u56 :: u57 :: u58 :: u59 :: u60 :: u61 :: u62 :: u63 :: u64 :: u65 :: u66 :: u67 :: u68 :: u69 :: u70 :: u71 :: u72 :: u73 :: u74 :: u75 :: u76 :: u77 :: u78 :: u79 :: u80 :: u81 :: v82 :: v83 :: v84 :: v85 :: v86 :: v87 :: v88 :: v89 :: v90 :: v91 :: v92 :: v93 :: v94 :: v95 :: v96 :: v97 :: v98 :: v99 :: v100 :: v101 :: v102 :: v103 :: v104 :: v105 :: v106 :: .bool true :: u108 :: u109 :: u110 :: u111 :: u112 :: u113 :: u114 :: u115 :: u116 :: u117 :: u118 :: u119 :: u120 :: u121 :: u122 :: u123 :: u124 :: u125 :: u126 :: u127 :: u128 :: u129 :: u130 :: u131 :: u132 :: u133 :: u134 :: u135 :: u136 :: u137 :: u138 :: u139 :: u140 :: u141 :: u142 :: u143 :: u144 :: u145 :: u146 :: u147 :: u148 :: u149 :: u150 :: u151 :: u152 :: u153 :: u154 :: u155 :: u156 :: u157 :: u158 :: u159 :: u160 :: u161 :: u162 :: u163 :: u164 :: u165 :: u166 :: u167 :: u168 :: u169 :: u170 :: u171 :: u172 :: u173 :: u174 :: u175 :: u176 :: u177 :: u178 :: u179 :: u180 :: u181 :: u182 :: u183 :: u184 :: u185 :: u186 :: u187 :: u188 :: u189 :: u190 :: u191 :: u192 :: u193 :: u194 :: u195 :: u196 :: u197 :: u198 :: u199 :: u200 :: u201 :: u202 :: u203 :: u204 :: u205 :: u206 :: u207 :: u208 :: u209 :: u210 :: u211 :: u212 :: u213 :: u214 :: []).toArray, []⟩ W) : Code.wp Try.prog ak16C (Exit.then K Q0) ⟨(.pointer (some ⟨gc, 0, none⟩) :: u1 :: u2 :: u3 :: .pointer (some ⟨gb, 0, none⟩) :: u5 :: u6 :: .int .i64 a :: .int .i64 ka.o.una :: u9 :: u10 :: u11 :: u12 :: u13 :: u14 :: u15 :: u16 :: u17 :: u18 :: u19 :: u20 :: u21 :: u22 :: u23 :: u24 :: u25 :: u26 :: u27 :: u28 :: u29 :: u30 :: u31 :: u32 :: u33 :: u34 :: u35 :: u36 :: u37 :: u38 :: u39 :: u40 :: u41 :: u42 :: u43 :: u44 :: u45 :: u46 :: u47 :: u48 :: u49 :: u50 :: u51 :: u52 :: u53 :: u54 :: u55 :: u56 :: u57 :: u58 :: u59 :: u60 :: u61 :: u62 :: u63 :: u64 :: u65 :: u66 :: u67 :: u68 :: u69 :: u70 :: u71 :: u72 :: u73 :: u74 :: u75 :: u76 :: u77 :: u78 :: u79 :: u80 :: u81 :: u82 :: u83 :: u84 :: u85 :: u86 :: u87 :: u88 :: u89 :: u90 :: u91 :: u92 :: u93 :: u94 :: u95 :: u96 :: u97 :: u98 :: u99 :: u100 :: u101 :: u102 :: u103 :: u104 :: u105 :: u106 :: u107 :: u108 :: u109 :: u110 :: u111 :: u112 :: u113 :: u114 :: u115 :: u116 :: u117 :: u118 :: u119 :: u120 :: u121 :: u122 :: u123 :: u124 :: u125 :: u126 :: u127 :: u128 :: u129 :: u130 :: u131 :: u132 :: u133 :: u134 :: u135 :: u136 :: u137 :: u138 :: u139 :: u140 :: u141 :: u142 :: u143 :: u144 :: u145 :: u146 :: u147 :: u148 :: u149 :: u150 :: u151 :: u152 :: u153 :: u154 :: u155 :: u156 :: u157 :: u158 :: u159 :: u160 :: u161 :: u162 :: u163 :: u164 :: u165 :: u166 :: u167 :: u168 :: u169 :: u170 :: u171 :: u172 :: u173 :: u174 :: u175 :: u176 :: u177 :: u178 :: u179 :: u180 :: u181 :: u182 :: u183 :: u184 :: u185 :: u186 :: u187 :: u188 :: u189 :: u190 :: u191 :: u192 :: u193 :: u194 :: u195 :: u196 :: u197 :: u198 :: u199 :: u200 :: u201 :: u202 :: u203 :: u204 :: u205 :: u206 :: u207 :: u208 :: u209 :: u210 :: u211 :: u212 :: u213 :: u214 :: []).toArray, []⟩ w4 := by
 have t1 : (a == ka.o.una) = true := by simpa using e1
 have t2 : (sl == 0) = true := by simpa using e2
 have t3 : decide (ka.o.una < ka.o.cur) = true := by simpa using e3
 have t4 : (g.win == ka.wnd) = true := by simpa using e4
 clear e1 e2 e3 e4
 conv => arg 2; whnf
 refine wp_region_M [0,2,7] [] hM (by kernel_rfl) ?_
 clear hM
 intro wo hM
 refine tW 0 rfl ?_
 simp only [zz]
 refine tW 1 rfl ?_
 simp only [zz]
 refine tW 2 rfl ?_
 simp only [zz]
 refine tW 3 rfl ?_
 simp only [zz]
 first
 | (refine tL 4 (v := .agg (cSeg g).toArray) rfl ⟨fun r hr => hM.get 0 hr, fun r hr => hM.get 2 hr, fun r hr => hM.get 7 hr, trivial⟩ (Or.inl ⟨by rfl, ?hy⟩) ?_; (case hy => (rintro W ⟨i0, i2, i7, -⟩; have c0 := (show At W _ _ _ from i0 _ rfl).cell; have c2 := (show At W _ _ _ from i2 _ rfl).cell; have c7 := (show At W _ _ _ from i7 _ rfl).cell; (try simp only [cnC,cSeg] at c0 c2 c7); exact exec_loadw _ _ rfl gb 0 rfl (cSeg g) _ Try.underlying33 rfl sz_Seg (range_cells c7))))
 | (refine tU 4 rfl ?_)
 simp only [zz]
 refine wpI_one (i := 5) rfl (by kernel_rfl) ?_
 (try simp only [zz])
 go_wp2_with (first
   | go_skip
   | ((go_at_call 77; refine (HLN.out _ ).mono ?_; rintro e W ⟨rfl, hb⟩; replace hM := hM.kept hb; clear hb; dsimp only)))
 refine contI_normal ⟨fun r hr => hM.get 0 hr, fun r hr => hM.get 2 hr, fun r hr => hM.get 7 hr, trivial⟩ ?_
 (try simp only [zz])
 first
 | (refine tW 6 rfl ?_)
 | (refine tU 6 rfl ?_)
 simp only [zz]
 refine tW 7 rfl ?_
 simp only [zz]
 refine tW 8 rfl ?_
 simp only [zz]
 first
 | (refine tW 9 rfl ?_)
 | (refine tU 9 rfl ?_)
 simp only [zz]
 first
 | (refine tW 10 rfl ?_)
 | (refine tU 10 rfl ?_)
 simp only [zz]
 first
 | (refine tW 11 rfl ?_)
 | (refine tU 11 rfl ?_)
 simp only [zz]
 first
 | (refine tL 12 (v := ?_) rfl ⟨fun r hr => hM.get 0 hr, fun r hr => hM.get 2 hr, fun r hr => hM.get 7 hr, trivial⟩ (Or.inl ⟨by rfl, ?hy⟩) ?_; (case hy => (rintro W ⟨i0, i2, i7, -⟩; have c0 := (show At W _ _ _ from i0 _ rfl).cell; have c2 := (show At W _ _ _ from i2 _ rfl).cell; have c7 := (show At W _ _ _ from i7 _ rfl).cell; (try simp only [cnC,cSeg] at c0 c2 c7); go_simp; (try with_reducible rfl))))
 | (refine tL 12 (v := undef) rfl ⟨fun r hr => hM.get 0 hr, fun r hr => hM.get 2 hr, fun r hr => hM.get 7 hr, trivial⟩ (Or.inr ⟨by rfl, rfl⟩) ?_)
 simp only [zz]
 first
 | (refine wpI_takeC (i := 13) rfl (by kernel_rfl) (by kernel_rfl) (by kernel_rfl) (by kernel_rfl) (by first | exact fun _ _ _ h => h | exact fun _ _ _ h => HQ0.out _ _ _ _ _ h) ⟨fun r hr => hM.get 0 hr, fun r hr => hM.get 2 hr, fun r hr => hM.get 7 hr, trivial⟩ ⟨by rfl, fun W hW => ⟨_, _, by (go_simp; first | done | rfl), (Cur_any k.go ka.o k.vo W (hW.1 _ rfl))⟩⟩ ?_)
 | (refine tU 13 rfl ?_)
 simp only [zz]
 first
 | (refine tW 14 rfl ?_)
 | (refine tU 14 rfl ?_)
 simp only [zz]
 first
 | (refine tW 15 rfl ?_)
 | (refine tU 15 rfl ?_)
 simp only [zz]
 refine tW 16 rfl ?_
 simp only [zz]
 refine tW 17 rfl ?_
 simp only [zz]
 first
 | (refine tW 18 rfl ?_)
 | (refine tU 18 rfl ?_)
 simp only [zz]
 first
 | (refine tL 19 (v := ?_) rfl ⟨fun r hr => hM.get 0 hr, fun r hr => hM.get 2 hr, fun r hr => hM.get 7 hr, trivial⟩ (Or.inl ⟨by rfl, ?hy⟩) ?_; (case hy => (rintro W ⟨i0, i2, i7, -⟩; have c0 := (show At W _ _ _ from i0 _ rfl).cell; have c2 := (show At W _ _ _ from i2 _ rfl).cell; have c7 := (show At W _ _ _ from i7 _ rfl).cell; (try simp only [cnC,cSeg] at c0 c2 c7); go_simp; (try with_reducible rfl))))
 | (refine tL 19 (v := undef) rfl ⟨fun r hr => hM.get 0 hr, fun r hr => hM.get 2 hr, fun r hr => hM.get 7 hr, trivial⟩ (Or.inr ⟨by rfl, rfl⟩) ?_)
 simp only [zz]
 first
 | (refine tW 20 rfl ?_)
 | (refine tU 20 rfl ?_)
 simp only [zz]
 first
 | (refine tW 21 rfl ?_)
 | (refine tU 21 rfl ?_)
 simp only [zz]
 first
 | (refine tW 22 rfl ?_)
 | (refine tU 22 rfl ?_)
 simp only [zz]
 first
 | (refine tL 23 (v := ?_) rfl ⟨fun r hr => hM.get 0 hr, fun r hr => hM.get 2 hr, fun r hr => hM.get 7 hr, trivial⟩ (Or.inl ⟨by rfl, ?hy⟩) ?_; (case hy => (rintro W ⟨i0, i2, i7, -⟩; have c0 := (show At W _ _ _ from i0 _ rfl).cell; have c2 := (show At W _ _ _ from i2 _ rfl).cell; have c7 := (show At W _ _ _ from i7 _ rfl).cell; (try simp only [cnC,cSeg] at c0 c2 c7); go_simp; (try with_reducible rfl))))
 | (refine tL 23 (v := undef) rfl ⟨fun r hr => hM.get 0 hr, fun r hr => hM.get 2 hr, fun r hr => hM.get 7 hr, trivial⟩ (Or.inr ⟨by rfl, rfl⟩) ?_)
 simp only [zz]
 first
 | (refine tW 24 rfl ?_)
 | (refine tU 24 rfl ?_)
 simp only [zz]
 refine tW 25 rfl ?_
 simp only [zz]
 refine wpI_done (by kernel_rfl) ?_ _
 (try simp only [zz])
 exact hK _ _ _ _ _ _ _ _ _ _ _ _ _ _ _ _ _ _ _ _ _ _ _ _ _ _ hM
theorem ak16_no (h : ¬ (a = ka.o.una ∧ sl = 0 ∧ ka.o.una < ka.o.cur ∧ g.win = ka.wnd))
  (hK : ∀ (v82 v83 v84 v85 v86 v87 v88 v89 v90 v91 v92 v93 v94 v95 v96 v97 v98 v99 v100 v101 v102 v103 v104 v105 v106 : Value) (W : World), MemX E w0 W (oqA k.go ka.o k.vo :: oqB ka.o k.vo :: cnA gc ka k :: tmR k.gt ka.tm :: rsR k.vr ka.rs :: iqR gi q :: wdR gw d :: atR gb 33 (cSeg g) :: m) → K ⟨(.pointer (some ⟨gc, 0, none⟩) :: u1 :: u2 :: u3 :: .pointer (some ⟨gb, 0, none⟩) :: u5 :: u6 :: .int .i64 a :: .int .i64 ka.o.una :: u9 :: u10 :: u11 :: u12 :: u13 :: u14 :: u15 :: u16 :: u17 :: u18 :: u19 :: u20 :: u21 :: u22 :: u23 :: u24 :: u25 :: u26 :: u27 :: u28 :: u29 :: u30 :: u31 :: u32 :: u33 :: u34 :: u35 :: u36 :: u37 :: u38 :: u39 :: u40 :: u41 :: u42 :: u43 :: u44 :: u45 :: u46 :: u47 :: u48 :: u49 :: u50 :: u51 :: u52 :: u53 :: u54 :: u55 :: u56 :: u57 :: u58 :: u59 :: u60 :: u61 :: u62 :: u63 :: u64 :: u65 :: u66 :: u67 :: u68 :: u69 :: u70 :: u71 :: u72 :: u73 :: u74 :: u75 :: u76 :: u77 :: u78 :: u79 :: u80 :: u81 :: v82 :: v83 :: v84 :: v85 :: v86 :: v87 :: v88 :: v89 :: v90 :: v91 :: v92 :: v93 :: v94 :: v95 :: v96 :: v97 :: v98 :: v99 :: v100 :: v101 :: v102 :: v103 :: v104 :: v105 :: v106 :: .bool false :: u108 :: u109 :: u110 :: u111 :: u112 :: u113 :: u114 :: u115 :: u116 :: u117 :: u118 :: u119 :: u120 :: u121 :: u122 :: u123 :: u124 :: u125 :: u126 :: u127 :: u128 :: u129 :: u130 :: u131 :: u132 :: u133 :: u134 :: u135 :: u136 :: u137 :: u138 :: u139 :: u140 :: u141 :: u142 :: u143 :: u144 :: u145 :: u146 :: u147 :: u148 :: u149 :: u150 :: u151 :: u152 :: u153 :: u154 :: u155 :: u156 :: u157 :: u158 :: u159 :: u160 :: u161 :: u162 :: u163 :: u164 :: u165 :: u166 :: u167 :: u168 :: u169 :: u170 :: u171 :: u172 :: u173 :: u174 :: u175 :: u176 :: u177 :: u178 :: u179 :: u180 :: u181 :: u182 :: u183 :: u184 :: u185 :: u186 :: u187 :: u188 :: u189 :: u190 :: u191 :: u192 :: u193 :: u194 :: u195 :: u196 :: u197 :: u198 :: u199 :: u200 :: u201 :: u202 :: u203 :: u204 :: u205 :: u206 :: u207 :: u208 :: u209 :: u210 :: u211 :: u212 :: u213 :: u214 :: []).toArray, []⟩ W) : Code.wp Try.prog ak16C (Exit.then K Q0) ⟨(.pointer (some ⟨gc, 0, none⟩) :: u1 :: u2 :: u3 :: .pointer (some ⟨gb, 0, none⟩) :: u5 :: u6 :: .int .i64 a :: .int .i64 ka.o.una :: u9 :: u10 :: u11 :: u12 :: u13 :: u14 :: u15 :: u16 :: u17 :: u18 :: u19 :: u20 :: u21 :: u22 :: u23 :: u24 :: u25 :: u26 :: u27 :: u28 :: u29 :: u30 :: u31 :: u32 :: u33 :: u34 :: u35 :: u36 :: u37 :: u38 :: u39 :: u40 :: u41 :: u42 :: u43 :: u44 :: u45 :: u46 :: u47 :: u48 :: u49 :: u50 :: u51 :: u52 :: u53 :: u54 :: u55 :: u56 :: u57 :: u58 :: u59 :: u60 :: u61 :: u62 :: u63 :: u64 :: u65 :: u66 :: u67 :: u68 :: u69 :: u70 :: u71 :: u72 :: u73 :: u74 :: u75 :: u76 :: u77 :: u78 :: u79 :: u80 :: u81 :: u82 :: u83 :: u84 :: u85 :: u86 :: u87 :: u88 :: u89 :: u90 :: u91 :: u92 :: u93 :: u94 :: u95 :: u96 :: u97 :: u98 :: u99 :: u100 :: u101 :: u102 :: u103 :: u104 :: u105 :: u106 :: u107 :: u108 :: u109 :: u110 :: u111 :: u112 :: u113 :: u114 :: u115 :: u116 :: u117 :: u118 :: u119 :: u120 :: u121 :: u122 :: u123 :: u124 :: u125 :: u126 :: u127 :: u128 :: u129 :: u130 :: u131 :: u132 :: u133 :: u134 :: u135 :: u136 :: u137 :: u138 :: u139 :: u140 :: u141 :: u142 :: u143 :: u144 :: u145 :: u146 :: u147 :: u148 :: u149 :: u150 :: u151 :: u152 :: u153 :: u154 :: u155 :: u156 :: u157 :: u158 :: u159 :: u160 :: u161 :: u162 :: u163 :: u164 :: u165 :: u166 :: u167 :: u168 :: u169 :: u170 :: u171 :: u172 :: u173 :: u174 :: u175 :: u176 :: u177 :: u178 :: u179 :: u180 :: u181 :: u182 :: u183 :: u184 :: u185 :: u186 :: u187 :: u188 :: u189 :: u190 :: u191 :: u192 :: u193 :: u194 :: u195 :: u196 :: u197 :: u198 :: u199 :: u200 :: u201 :: u202 :: u203 :: u204 :: u205 :: u206 :: u207 :: u208 :: u209 :: u210 :: u211 :: u212 :: u213 :: u214 :: []).toArray, []⟩ w4 := by
 by_cases e1 : a = ka.o.una
 ·by_cases e2 : sl = 0
  ·by_cases e3 : ka.o.una < ka.o.cur
   ·by_cases e4 : g.win = ka.wnd
    ·exact absurd ⟨e1, e2, e3, e4⟩ h
    ·exact ak16_3 _ _ _ _ _ _ _ _ _ _ _ _ _ _ _ _ _ hM HLN HQ0 e1 e2 e3 e4 hK
   ·exact ak16_2 _ _ _ _ _ _ _ _ _ _ _ _ _ _ _ _ _ hM HLN HQ0 e1 e2 e3 hK
  ·exact ak16_1 _ _ _ _ _ _ _ _ _ _ _ _ _ _ _ _ _ hM HLN HQ0 e1 e2 hK
 ·exact ak16_0 _ _ _ _ _ _ _ _ _ _ _ _ _ _ _ _ _ hM HLN HQ0 e1 hK
end
end Go.Proofs.Ytfpifahkpkjfgaa
