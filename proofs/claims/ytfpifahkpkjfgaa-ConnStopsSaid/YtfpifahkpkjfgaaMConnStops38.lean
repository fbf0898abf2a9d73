/- What ConnStops needs, a part: CnQs. -/
import Derived.Deep.CutBlock
import Derived.Test.YtfpifahkpkjfgaaMConnStops34
namespace Go.Proofs.Ytfpifahkpkjfgaa
open Go.RowKit Go.Lib
set_option linter.unusedVariables false
set_option linter.unusedSimpArgs false
set_option linter.unusedSectionVars false
set_option maxRecDepth 100000
theorem exec_sub {P : Program} {o : Oper} {a : Act} (T : TypeId) (x y : Operand) (R : TypeId) (ho : o.op = .binOp .sub T x y R) (X Y Z : Int) (hx : a.eval x = .int .i64 X) (hy : a.eval y = .int .i64 Y) (hz : IntKind.i64.wrap (X - Y) = Z) (w : World) : (execOp a.eval o).run P w = .ok (.value (.int .i64 Z)) w := by
 unfold execOp
 simp [ho, hx, hy, eqGuard, binOp, Op.intBits, Op.intArith, ← hz]
theorem ba_empty {b : ByteArray} (h : ¬ 0 < (b.size : Int)) : b = ByteArray.empty := ByteArray.size_eq_zero_iff.1 (by omega)
theorem less_no (e s z : Int) (h : decide (dZ ((e + 1) % 4294967296) ((s + u32 z) % 4294967296) < 0) = false) (W : World) : Calls Try.prog 51 #[.int .u32 (IntKind.u32.wrap (e + 1)), .int .u32 (IntKind.u32.wrap (s + u32 z))] W fun e w' => e = .returned (.bool false) ∧ W = w' := by
 have h2 := Less_any ((e + 1) % 4294967296) ((s + u32 z) % 4294967296) W (by omega) (by omega) (by omega) (by omega)
 rw [h] at h2
 rw [IntKind.wrap_u32, IntKind.wrap_u32]
 exact h2
noncomputable def sdR (n : Nat) : Code := ((Try.f21.body.bind (regIn n)).getD .skip)
abbrev u32x (x : Int) : Int := u32 x
section
variable {u1 u2 u4 u5 u8 u9 u10 u11 u12 u13 u14 u15 u16 u17 u18 u19 u20 u21 u22 u23 u24 u25 u26 u27 u28 u29 u30 u31 u32 u33 u34 u35 u36 u37 u38 u39 u40 u41 u42 u43 u44 u45 u46 u47 u48 u49 u50 u51 u52 u53 u54 u55 u56 u57 u58 u59 u60 u61 u62 u63 u64 u65 u66 u67 u68 u69 u70 u71 u72 u73 u74 u75 u76 u77 u78 u79 u80 u81 u82 u83 u84 u85 u86 u87 u88 u89 u90 u91 u92 u93 u94 u95 u96 u97 u98 u99 u100 u101 u102 u103 u104 u105 u106 u107 u108 u109 u110 u111 u112 u113 u114 u115 u116 u117 u118 u119 u120 u121 u122 u123 u124 u125 u126 u127 u128 u129 u130 u131 u132 u133 u134 u135 u136 u137 u138 u139 u140 : Value} {v7 : Value} (E : Nat → Prop) (w0 : World) (gp ga gb gs : Nat) (va : Value) (q : KPa) (g : KSeg) (R : Res) (m : List Res) (w4 : World) (K : Act → World → Prop) (Q0 : Exit → Act → World → Prop)
 (hM : MemX E w0 w4 (atR gs 33 (cSeg g) :: R :: prR gp ga gb va q :: m))
 (HQ0 : Hid (∀ c d v a w, Q0 (.panic c) (Act.put a d v) w → Q0 (.panic c) a w))
include hM HQ0
set_option maxRecDepth 100000 in
set_option maxHeartbeats 8000000 in
theorem sd7a (hg1 : g.fa = 1 ∧ g.fp = 40000) (hg2 : g.ta = 2 ∧ g.tp = 80) (HCK : Hid (∀ W, Calls Try.prog 47 #[.agg (cSeg g).toArray] W fun e w' => e = .returned (.int .i64 0) ∧ Below W.heap.size W w'))
  (hK : ∀ (v23 v24 v25 v26 v27 v28 v29 v30 v31 v32 v33 v34 v35 v36 v37 v38 v39 v40 v41 v42 v43 v44 v45 v46 v47 : Value) (W : World), MemX E w0 W (atR gs 33 (cSeg g) :: R :: prR gp ga gb va q :: m) → K ⟨(.pointer (some ⟨gp, 0, none⟩) :: u1 :: u2 :: .int .i64 0 :: u4 :: u5 :: .pointer (some ⟨gs, 0, none⟩) :: v7 :: u8 :: u9 :: u10 :: u11 :: u12 :: u13 :: u14 :: u15 :: u16 :: u17 :: u18 :: u19 :: u20 :: u21 :: u22 :: v23 :: v24 :: v25 :: v26 :: v27 :: v28 :: v29 :: v30 :: v31 :: v32 :: v33 :: v34 :: v35 :: v36 :: v37 :: v38 :: v39 :: v40 :: v41 :: v42 :: v43 :: v44 :: v45 :: v46 :: v47 :: .bool false :: u49 :: u50 :: u51 :: u52 :: u53 :: u54 :: u55 :: u56 :: u57 :: u58 :: u59 :: u60 :: u61 :: u62 :: u63 :: u64 :: u65 :: u66 :: u67 :: u68 :: u69 :: u70 :: u71 :: u72 :: u73 :: u74 :: u75 :: u76 :: u77 :: u78 :: u79 :: u80 :: u81 :: u82 :: u83 :: u84 :: u85 :: u86 :: u87 :: u88 :: u89 :: u90 :: u91 :: u92 :: u93 :: u94 :: u95 :: u96 :: u97 :: u98 :: u99 :: u100 :: u101 :: u102 :: u103 :: u104 :: u105 :: u106 :: u107 :: u108 :: u109 :: u110 :: u111 :: u112 :: u113 :: u114 :: u115 :: u116 :: u117 :: u118 :: u119 :: u120 :: u121 :: u122 :: u123 :: u124 :: u125 :: u126 :: u127 :: u128 :: u129 :: u130 :: u131 :: u132 :: u133 :: u134 :: u135 :: u136 :: u137 :: u138 :: u139 :: u140 :: []).toArray, []⟩ W) : Code.wp Try.prog (sdR 7) (Exit.then K Q0) ⟨(.pointer (some ⟨gp, 0, none⟩) :: u1 :: u2 :: .int .i64 0 :: u4 :: u5 :: .pointer (some ⟨gs, 0, none⟩) :: v7 :: u8 :: u9 :: u10 :: u11 :: u12 :: u13 :: u14 :: u15 :: u16 :: u17 :: u18 :: u19 :: u20 :: u21 :: u22 :: u23 :: u24 :: u25 :: u26 :: u27 :: u28 :: u29 :: u30 :: u31 :: u32 :: u33 :: u34 :: u35 :: u36 :: u37 :: u38 :: u39 :: u40 :: u41 :: u42 :: u43 :: u44 :: u45 :: u46 :: u47 :: u48 :: u49 :: u50 :: u51 :: u52 :: u53 :: u54 :: u55 :: u56 :: u57 :: u58 :: u59 :: u60 :: u61 :: u62 :: u63 :: u64 :: u65 :: u66 :: u67 :: u68 :: u69 :: u70 :: u71 :: u72 :: u73 :: u74 :: u75 :: u76 :: u77 :: u78 :: u79 :: u80 :: u81 :: u82 :: u83 :: u84 :: u85 :: u86 :: u87 :: u88 :: u89 :: u90 :: u91 :: u92 :: u93 :: u94 :: u95 :: u96 :: u97 :: u98 :: u99 :: u100 :: u101 :: u102 :: u103 :: u104 :: u105 :: u106 :: u107 :: u108 :: u109 :: u110 :: u111 :: u112 :: u113 :: u114 :: u115 :: u116 :: u117 :: u118 :: u119 :: u120 :: u121 :: u122 :: u123 :: u124 :: u125 :: u126 :: u127 :: u128 :: u129 :: u130 :: u131 :: u132 :: u133 :: u134 :: u135 :: u136 :: u137 :: u138 :: u139 :: u140 :: []).toArray, []⟩ w4 := by
 have HE1 := Lib.hid (fun W => (by have h := eqB_End g.fa g.fp 1 40000 W; rw [decide_eq_true hg1] at h; exact h : (Op.equalIn 10000 29 (.agg #[.int .u32 g.fa, .int .i64 g.fp]) (.agg #[.int .u32 1, .int .i64 40000])).run Try.prog W = .ok true W))
 have HE2 := Lib.hid (fun W => (by have h := eqB_End g.ta g.tp 2 80 W; rw [decide_eq_true hg2] at h; exact h : (Op.equalIn 10000 29 (.agg #[.int .u32 g.ta, .int .i64 g.tp]) (.agg #[.int .u32 2, .int .i64 80])).run Try.prog W = .ok true W))
 clear hg1 hg2
 conv => arg 2; whnf
 refine wp_region_M [0,2] [] hM (by kernel_rfl) ?_
 clear hM
 intro wo hM
 refine tW 0 rfl ?_
 simp only [zz]
 refine tL 1 (v := .agg #[.int .u32 g.fa, .int .i64 g.fp]) rfl ⟨fun r hr => hM.get 0 hr, fun r hr => hM.get 2 hr, trivial⟩ (Or.inl ⟨by rfl, ?hy⟩) ?_
 case hy => (rintro W ⟨i0, i2, -⟩; have c0 := (show At W _ _ _ from i0 _ rfl).cell; have c2 := (show At W _ _ _ from i2 _ rfl).cell; (try simp only [cSeg,prC] at c0 c2); exact exec_loadw _ _ rfl gs 0 rfl [.int .u32 g.fa, .int .i64 g.fp] _ Try.underlying29 rfl sz_End (range_sub (cs := cSeg g) c0 0 _ rfl))
 simp only [zz]
 refine tW 2 rfl ?_
 simp only [zz]
 refine tW 3 rfl ?_
 simp only [zz]
 refine tW 4 rfl ?_
 simp only [zz]
 refine tW 5 rfl ?_
 simp only [zz]
 refine tW 6 rfl ?_
 simp only [zz]
 refine tL 7 (v := .agg #[.int .u32 1, .int .i64 40000]) rfl ⟨fun r hr => hM.get 0 hr, fun r hr => hM.get 2 hr, trivial⟩ (Or.inl ⟨by rfl, ?hy⟩) ?_
 case hy => (rintro W ⟨i0, i2, -⟩; have c0 := (show At W _ _ _ from i0 _ rfl).cell; have c2 := (show At W _ _ _ from i2 _ rfl).cell; (try simp only [cSeg,prC] at c0 c2); exact exec_loadw _ _ rfl gp 2 rfl [.int .u32 1, .int .i64 40000] _ Try.underlying29 rfl sz_End (range_sub (cs := prC ga gb va q) c2 2 _ rfl))
 simp only [zz]
 refine tY 8 rfl ((.inl ⟨by rfl, fun w => exec_neq _ _ _ _ rfl _ _ rfl rfl eg_End _ HE1.out w⟩)) ?_
 simp only [zz]
 (try simp only [Bool.not_true, Bool.not_false])
 refine tW 9 rfl ?_
 simp only [zz]
 first
 | (refine tW 10 rfl ?_)
 | (refine tU 10 rfl ?_)
 simp only [zz]
 first
 | (refine tL 11 (v := .agg #[.int .u32 g.ta, .int .i64 g.tp]) rfl ⟨fun r hr => hM.get 0 hr, fun r hr => hM.get 2 hr, trivial⟩ (Or.inl ⟨by rfl, ?hy⟩) ?_; (case hy => (rintro W ⟨i0, i2, -⟩; have c0 := (show At W _ _ _ from i0 _ rfl).cell; have c2 := (show At W _ _ _ from i2 _ rfl).cell; (try simp only [cSeg,prC] at c0 c2); exact exec_loadw _ _ rfl gs 2 rfl [.int .u32 g.ta, .int .i64 g.tp] _ Try.underlying29 rfl sz_End (range_sub (cs := cSeg g) c0 2 _ rfl))))
 | (refine tU 11 rfl ?_)
 simp only [zz]
 first
 | (refine tW 12 rfl ?_)
 | (refine tU 12 rfl ?_)
 simp only [zz]
 first
 | (refine tW 13 rfl ?_)
 | (refine tU 13 rfl ?_)
 simp only [zz]
 first
 | (refine tY 14 rfl ((.inl ⟨by rfl, fun w => exec_sub _ _ _ _ rfl 1 0 1 rfl rfl rfl w⟩)) ?_)
 | (refine tU 14 rfl ?_)
 simp only [zz]
 (try simp only [Bool.not_true, Bool.not_false])
 first
 | (refine tW 15 rfl ?_)
 | (refine tU 15 rfl ?_)
 simp only [zz]
 first
 | (refine tW 16 rfl ?_)
 | (refine tU 16 rfl ?_)
 simp only [zz]
 first
 | (refine tW 17 rfl ?_)
 | (refine tU 17 rfl ?_)
 simp only [zz]
 first
 | (refine tL 18 (v := .agg #[.int .u32 2, .int .i64 80]) rfl ⟨fun r hr => hM.get 0 hr, fun r hr => hM.get 2 hr, trivial⟩ (Or.inl ⟨by rfl, ?hy⟩) ?_; (case hy => (rintro W ⟨i0, i2, -⟩; have c0 := (show At W _ _ _ from i0 _ rfl).cell; have c2 := (show At W _ _ _ from i2 _ rfl).cell; (try simp only [cSeg,prC] at c0 c2); exact exec_loadw _ _ rfl gp 4 rfl [.int .u32 2, .int .i64 80] _ Try.underlying29 rfl sz_End (range_sub (cs := prC ga gb va q) c2 4 _ rfl))))
 | (refine tU 18 rfl ?_)
 simp only [zz]
 first
 | (refine tY 19 rfl ((.inl ⟨by rfl, fun w => exec_neq _ _ _ _ rfl _ _ rfl rfl eg_End _ HE2.out w⟩)) ?_)
 | (refine tU 19 rfl ?_)
 simp only [zz]
 (try simp only [Bool.not_true, Bool.not_false])
 refine tW 20 rfl ?_
 simp only [zz]
 refine tW 21 rfl ?_
 simp only [zz]
 first
 | (refine tL 22 (v := .agg (cSeg g).toArray) rfl ⟨fun r hr => hM.get 0 hr, fun r hr => hM.get 2 hr, trivial⟩ (Or.inl ⟨by rfl, ?hy⟩) ?_; (case hy => (rintro W ⟨i0, i2, -⟩; have c0 := (show At W _ _ _ from i0 _ rfl).cell; have c2 := (show At W _ _ _ from i2 _ rfl).cell; (try simp only [cSeg,prC] at c0 c2); exact exec_loadw _ _ rfl gs 0 rfl (cSeg g) _ Try.underlying33 rfl sz_Seg (range_cells c0))))
 | (refine tU 22 rfl ?_)
 simp only [zz]
 refine wpI_one (i := 23) rfl (by kernel_rfl) ?_
 (try simp only [zz])
 go_wp2_with (first
   | go_skip
   | ((go_at_call 47; refine (HCK.out _).mono ?_; rintro e W ⟨rfl, hb⟩; replace hM := hM.kept hb; clear hb; dsimp only)))
 refine contI_normal ⟨fun r hr => hM.get 0 hr, fun r hr => hM.get 2 hr, trivial⟩ ?_
 (try simp only [zz])
 first
 | (refine tW 24 rfl ?_)
 | (refine tU 24 rfl ?_)
 simp only [zz]
 refine tW 25 rfl ?_
 simp only [zz]
 refine wpI_done (by kernel_rfl) ?_ _
 (try simp only [zz])
 exact hK _ _ _ _ _ _ _ _ _ _ _ _ _ _ _ _ _ _ _ _ _ _ _ _ _ _ hM
set_option maxRecDepth 100000 in
set_option maxHeartbeats 8000000 in
theorem sd9a0 (HTO : Hid (q.t0 = false))
  (hK : ∀ (v49 v50 v51 v52 v53 v54 v55 v56 v57 v58 v59 v60 v61 v62 v63 v64 v65 v66 v67 v68 v69 v70 v71 v72 v73 v74 v75 v76 : Value) (W : World), MemX E w0 W (atR gs 33 (cSeg g) :: R :: prR gp ga gb va q :: m) → K ⟨(.pointer (some ⟨gp, 0, none⟩) :: u1 :: u2 :: .int .i64 0 :: u4 :: u5 :: .pointer (some ⟨gs, 0, none⟩) :: v7 :: u8 :: u9 :: u10 :: u11 :: u12 :: u13 :: u14 :: u15 :: u16 :: u17 :: u18 :: u19 :: u20 :: u21 :: u22 :: u23 :: u24 :: u25 :: u26 :: u27 :: u28 :: u29 :: u30 :: u31 :: u32 :: u33 :: u34 :: u35 :: u36 :: u37 :: u38 :: u39 :: u40 :: u41 :: u42 :: u43 :: u44 :: u45 :: u46 :: u47 :: u48 :: v49 :: v50 :: v51 :: v52 :: v53 :: v54 :: v55 :: v56 :: v57 :: v58 :: v59 :: v60 :: v61 :: v62 :: v63 :: v64 :: v65 :: v66 :: v67 :: v68 :: v69 :: v70 :: v71 :: v72 :: v73 :: v74 :: v75 :: v76 :: .bool false :: u78 :: u79 :: u80 :: u81 :: u82 :: u83 :: u84 :: u85 :: u86 :: u87 :: u88 :: u89 :: u90 :: u91 :: u92 :: u93 :: u94 :: u95 :: u96 :: u97 :: u98 :: u99 :: u100 :: u101 :: u102 :: u103 :: u104 :: u105 :: u106 :: u107 :: u108 :: u109 :: u110 :: u111 :: u112 :: u113 :: u114 :: u115 :: u116 :: u117 :: u118 :: u119 :: u120 :: u121 :: u122 :: u123 :: u124 :: u125 :: u126 :: u127 :: u128 :: u129 :: u130 :: u131 :: u132 :: u133 :: u134 :: u135 :: u136 :: u137 :: u138 :: u139 :: u140 :: []).toArray, []⟩ W) : Code.wp Try.prog (sdR 9) (Exit.then K Q0) ⟨(.pointer (some ⟨gp, 0, none⟩) :: u1 :: u2 :: .int .i64 0 :: u4 :: u5 :: .pointer (some ⟨gs, 0, none⟩) :: v7 :: u8 :: u9 :: u10 :: u11 :: u12 :: u13 :: u14 :: u15 :: u16 :: u17 :: u18 :: u19 :: u20 :: u21 :: u22 :: u23 :: u24 :: u25 :: u26 :: u27 :: u28 :: u29 :: u30 :: u31 :: u32 :: u33 :: u34 :: u35 :: u36 :: u37 :: u38 :: u39 :: u40 :: u41 :: u42 :: u43 :: u44 :: u45 :: u46 :: u47 :: u48 :: u49 :: u50 :: u51 :: u52 :: u53 :: u54 :: u55 :: u56 :: u57 :: u58 :: u59 :: u60 :: u61 :: u62 :: u63 :: u64 :: u65 :: u66 :: u67 :: u68 :: u69 :: u70 :: u71 :: u72 :: u73 :: u74 :: u75 :: u76 :: u77 :: u78 :: u79 :: u80 :: u81 :: u82 :: u83 :: u84 :: u85 :: u86 :: u87 :: u88 :: u89 :: u90 :: u91 :: u92 :: u93 :: u94 :: u95 :: u96 :: u97 :: u98 :: u99 :: u100 :: u101 :: u102 :: u103 :: u104 :: u105 :: u106 :: u107 :: u108 :: u109 :: u110 :: u111 :: u112 :: u113 :: u114 :: u115 :: u116 :: u117 :: u118 :: u119 :: u120 :: u121 :: u122 :: u123 :: u124 :: u125 :: u126 :: u127 :: u128 :: u129 :: u130 :: u131 :: u132 :: u133 :: u134 :: u135 :: u136 :: u137 :: u138 :: u139 :: u140 :: []).toArray, []⟩ w4 := by
 conv => arg 2; whnf
 refine wp_region_M [0,2] [] hM (by kernel_rfl) ?_
 clear hM
 intro wo hM
 refine tW 0 rfl ?_
 simp only [zz]
 refine tW 1 rfl ?_
 simp only [zz]
 refine tW 2 rfl ?_
 simp only [zz]
 refine tW 3 rfl ?_
 simp only [zz]
 refine tW 4 rfl ?_
 simp only [zz]
 refine tL 5 (v := ?_) rfl ⟨fun r hr => hM.get 0 hr, fun r hr => hM.get 2 hr, trivial⟩ (Or.inl ⟨by rfl, ?hy⟩) ?_
 case hy => (rintro W ⟨i0, i2, -⟩; have c0 := (show At W _ _ _ from i0 _ rfl).cell; have c2 := (show At W _ _ _ from i2 _ rfl).cell; (try simp only [cSeg,prC] at c0 c2); (try simp only [HTO.out] at c2); go_simp; (try with_reducible rfl))
 simp only [zz]
 refine tW 6 rfl ?_
 simp only [zz]
 first
 | (refine tW 7 rfl ?_)
 | (refine tU 7 rfl ?_)
 simp only [zz]
 first
 | (refine tL 8 (v := ?_) rfl ⟨fun r hr => hM.get 0 hr, fun r hr => hM.get 2 hr, trivial⟩ (Or.inl ⟨by rfl, ?hy⟩) ?_; (case hy => (rintro W ⟨i0, i2, -⟩; have c0 := (show At W _ _ _ from i0 _ rfl).cell; have c2 := (show At W _ _ _ from i2 _ rfl).cell; (try simp only [cSeg,prC] at c0 c2); (try simp only [HTO.out] at c2); go_simp; (try with_reducible rfl))))
 | (refine tL 8 (v := undef) rfl ⟨fun r hr => hM.get 0 hr, fun r hr => hM.get 2 hr, trivial⟩ (Or.inr ⟨by rfl, rfl⟩) ?_)
 simp only [zz]
 first
 | (refine tW 9 rfl ?_)
 | (refine tU 9 rfl ?_)
 simp only [zz]
 first
 | (refine tW 10 rfl ?_)
 | (refine tU 10 rfl ?_)
 simp only [zz]
 refine tW 11 rfl ?_
 simp only [zz]
 refine tW 12 rfl ?_
 simp only [zz]
 first
 | (refine tW 13 rfl ?_)
 | (refine tU 13 rfl ?_)
 simp only [zz]
 first
 | (refine tW 14 rfl ?_)
 | (refine tU 14 rfl ?_)
 simp only [zz]
 first
 | (refine tW 15 rfl ?_)
 | (refine tU 15 rfl ?_)
 simp only [zz]
 first
 | (refine tW 16 rfl ?_)
 | (refine tU 16 rfl ?_)
 simp only [zz]
 first
 | (refine tW 17 rfl ?_)
 | (refine tU 17 rfl ?_)
 simp only [zz]
 first
 | (refine tL 18 (v := ?_) rfl ⟨fun r hr => hM.get 0 hr, fun r hr => hM.get 2 hr, trivial⟩ (Or.inl ⟨by rfl, ?hy⟩) ?_; (case hy => (rintro W ⟨i0, i2, -⟩; have c0 := (show At W _ _ _ from i0 _ rfl).cell; have c2 := (show At W _ _ _ from i2 _ rfl).cell; (try simp only [cSeg,prC] at c0 c2); (try simp only [HTO.out] at c2); go_simp; (try with_reducible rfl))))
 | (refine tL 18 (v := undef) rfl ⟨fun r hr => hM.get 0 hr, fun r hr => hM.get 2 hr, trivial⟩ (Or.inr ⟨by rfl, rfl⟩) ?_)
 simp only [zz]
 first
 | (refine tW 19 rfl ?_)
 | (refine tU 19 rfl ?_)
 simp only [zz]
 first
 | (refine tW 20 rfl ?_)
 | (refine tU 20 rfl ?_)
 simp only [zz]
 first
 | (refine tL 21 (v := ?_) rfl ⟨fun r hr => hM.get 0 hr, fun r hr => hM.get 2 hr, trivial⟩ (Or.inl ⟨by rfl, ?hy⟩) ?_; (case hy => (rintro W ⟨i0, i2, -⟩; have c0 := (show At W _ _ _ from i0 _ rfl).cell; have c2 := (show At W _ _ _ from i2 _ rfl).cell; (try simp only [cSeg,prC] at c0 c2); (try simp only [HTO.out] at c2); go_simp; (try with_reducible rfl))))
 | (refine tL 21 (v := undef) rfl ⟨fun r hr => hM.get 0 hr, fun r hr => hM.get 2 hr, trivial⟩ (Or.inr ⟨by rfl, rfl⟩) ?_)
 simp only [zz]
 first
 | (refine tW 22 rfl ?_)
 | (refine tU 22 rfl ?_)
 simp only [zz]
 first
 | (refine tL 23 (v := ?_) rfl ⟨fun r hr => hM.get 0 hr, fun r hr => hM.get 2 hr, trivial⟩ (Or.inl ⟨by rfl, ?hy⟩) ?_; (case hy => (rintro W ⟨i0, i2, -⟩; have c0 := (show At W _ _ _ from i0 _ rfl).cell; have c2 := (show At W _ _ _ from i2 _ rfl).cell; (try simp only [cSeg,prC] at c0 c2); (try simp only [HTO.out] at c2); go_simp; (try with_reducible rfl))))
 | (refine tL 23 (v := undef) rfl ⟨fun r hr => hM.get 0 hr, fun r hr => hM.get 2 hr, trivial⟩ (Or.inr ⟨by rfl, rfl⟩) ?_)
 simp only [zz]
 first
 | (refine tW 24 rfl ?_)
 | (refine tU 24 rfl ?_)
 simp only [zz]
 first
 | (refine tY 25 rfl ((.inl ⟨by rfl, fun w => exec_cv32 _ _ _ rfl Try.underlying3 Try.underlying22 _ rfl w⟩)) ?_)
 | (refine tU 25 rfl ?_)
 simp only [zz]
 (try simp only [Bool.not_true, Bool.not_false])
 first
 | (refine tW 26 rfl ?_)
 | (refine tU 26 rfl ?_)
 simp only [zz]
 refine wpI_one (i := 27) rfl (by kernel_rfl) ?_
 (try simp only [zz])
 go_wp2_with (first
   | go_skip)
 refine contI_normal ⟨fun r hr => hM.get 0 hr, fun r hr => hM.get 2 hr, trivial⟩ ?_
 (try simp only [zz])
 refine tW 28 rfl ?_
 simp only [zz]
 refine wpI_done (by kernel_rfl) ?_ _
 (try simp only [zz])
 exact hK _ _ _ _ _ _ _ _ _ _ _ _ _ _ _ _ _ _ _ _ _ _ _ _ _ _ _ _ _ hM
set_option maxRecDepth 100000 in
set_option maxHeartbeats 8000000 in
theorem sd9a1 (HTO : Hid (q.t0 = true)) (HZ : Hid (0 < (g.b.size : Int))) (HLS : Hid (∀ W, Calls Try.prog 51 #[.int .u32 (IntKind.u32.wrap (q.e0 + 1)), .int .u32 (IntKind.u32.wrap (g.seq + u32x g.b.size))] W fun e w' => e = .returned (.bool false) ∧ W = w'))
  (hK : ∀ (v49 v50 v51 v52 v53 v54 v55 v56 v57 v58 v59 v60 v61 v62 v63 v64 v65 v66 v67 v68 v69 v70 v71 v72 v73 v74 v75 v76 : Value) (W : World), MemX E w0 W (atR gs 33 (cSeg g) :: R :: prR gp ga gb va q :: m) → K ⟨(.pointer (some ⟨gp, 0, none⟩) :: u1 :: u2 :: .int .i64 0 :: u4 :: u5 :: .pointer (some ⟨gs, 0, none⟩) :: v7 :: u8 :: u9 :: u10 :: u11 :: u12 :: u13 :: u14 :: u15 :: u16 :: u17 :: u18 :: u19 :: u20 :: u21 :: u22 :: u23 :: u24 :: u25 :: u26 :: u27 :: u28 :: u29 :: u30 :: u31 :: u32 :: u33 :: u34 :: u35 :: u36 :: u37 :: u38 :: u39 :: u40 :: u41 :: u42 :: u43 :: u44 :: u45 :: u46 :: u47 :: u48 :: v49 :: v50 :: v51 :: v52 :: v53 :: v54 :: v55 :: v56 :: v57 :: v58 :: v59 :: v60 :: v61 :: v62 :: v63 :: v64 :: v65 :: v66 :: v67 :: v68 :: v69 :: v70 :: v71 :: v72 :: v73 :: v74 :: v75 :: v76 :: .bool false :: u78 :: u79 :: u80 :: u81 :: u82 :: u83 :: u84 :: u85 :: u86 :: u87 :: u88 :: u89 :: u90 :: u91 :: u92 :: u93 :: u94 :: u95 :: u96 :: u97 :: u98 :: u99 :: u100 :: u101 :: u102 :: u103 :: u104 :: u105 :: u106 :: u107 :: u108 :: u109 :: u110 :: u111 :: u112 :: u113 :: u114 :: u115 :: u116 :: u117 :: u118 :: u119 :: u120 :: u121 :: u122 :: u123 :: u124 :: u125 :: u126 :: u127 :: u128 :: u129 :: u130 :: u131 :: u132 :: u133 :: u134 :: u135 :: u136 :: u137 :: u138 :: u139 :: u140 :: []).toArray, []⟩ W) : Code.wp Try.prog (sdR 9) (Exit.then K Q0) ⟨(.pointer (some ⟨gp, 0, none⟩) :: u1 :: u2 :: .int .i64 0 :: u4 :: u5 :: .pointer (some ⟨gs, 0, none⟩) :: v7 :: u8 :: u9 :: u10 :: u11 :: u12 :: u13 :: u14 :: u15 :: u16 :: u17 :: u18 :: u19 :: u20 :: u21 :: u22 :: u23 :: u24 :: u25 :: u26 :: u27 :: u28 :: u29 :: u30 :: u31 :: u32 :: u33 :: u34 :: u35 :: u36 :: u37 :: u38 :: u39 :: u40 :: u41 :: u42 :: u43 :: u44 :: u45 :: u46 :: u47 :: u48 :: u49 :: u50 :: u51 :: u52 :: u53 :: u54 :: u55 :: u56 :: u57 :: u58 :: u59 :: u60 :: u61 :: u62 :: u63 :: u64 :: u65 :: u66 :: u67 :: u68 :: u69 :: u70 :: u71 :: u72 :: u73 :: u74 :: u75 :: u76 :: u77 :: u78 :: u79 :: u80 :: u81 :: u82 :: u83 :: u84 :: u85 :: u86 :: u87 :: u88 :: u89 :: u90 :: u91 :: u92 :: u93 :: u94 :: u95 :: u96 :: u97 :: u98 :: u99 :: u100 :: u101 :: u102 :: u103 :: u104 :: u105 :: u106 :: u107 :: u108 :: u109 :: u110 :: u111 :: u112 :: u113 :: u114 :: u115 :: u116 :: u117 :: u118 :: u119 :: u120 :: u121 :: u122 :: u123 :: u124 :: u125 :: u126 :: u127 :: u128 :: u129 :: u130 :: u131 :: u132 :: u133 :: u134 :: u135 :: u136 :: u137 :: u138 :: u139 :: u140 :: []).toArray, []⟩ w4 := by
 have tz : decide (0 < (g.b.size : Int)) = true := decide_eq_true HZ.out
 conv => arg 2; whnf
 refine wp_region_M [0,2] [] hM (by kernel_rfl) ?_
 clear hM
 intro wo hM
 refine tW 0 rfl ?_
 simp only [zz]
 refine tW 1 rfl ?_
 simp only [zz]
 refine tW 2 rfl ?_
 simp only [zz]
 refine tW 3 rfl ?_
 simp only [zz]
 refine tW 4 rfl ?_
 simp only [zz]
 refine tL 5 (v := ?_) rfl ⟨fun r hr => hM.get 0 hr, fun r hr => hM.get 2 hr, trivial⟩ (Or.inl ⟨by rfl, ?hy⟩) ?_
 case hy => (rintro W ⟨i0, i2, -⟩; have c0 := (show At W _ _ _ from i0 _ rfl).cell; have c2 := (show At W _ _ _ from i2 _ rfl).cell; (try simp only [cSeg,prC] at c0 c2); (try simp only [HTO.out] at c2); go_simp; (try with_reducible rfl))
 simp only [zz]
 refine tW 6 rfl ?_
 simp only [zz]
 first
 | (refine tW 7 rfl ?_)
 | (refine tU 7 rfl ?_)
 simp only [zz]
 first
 | (refine tL 8 (v := ?_) rfl ⟨fun r hr => hM.get 0 hr, fun r hr => hM.get 2 hr, trivial⟩ (Or.inl ⟨by rfl, ?hy⟩) ?_; (case hy => (rintro W ⟨i0, i2, -⟩; have c0 := (show At W _ _ _ from i0 _ rfl).cell; have c2 := (show At W _ _ _ from i2 _ rfl).cell; (try simp only [cSeg,prC] at c0 c2); (try simp only [HTO.out] at c2); go_simp; (try with_reducible rfl))))
 | (refine tL 8 (v := undef) rfl ⟨fun r hr => hM.get 0 hr, fun r hr => hM.get 2 hr, trivial⟩ (Or.inr ⟨by rfl, rfl⟩) ?_)
 simp only [zz]
 first
 | (refine tW 9 rfl ?_)
 | (refine tU 9 rfl ?_)
 simp only [zz]
 first
 | (refine tL 10 (v := .bool true) rfl ⟨fun r hr => hM.get 0 hr, fun r hr => hM.get 2 hr, trivial⟩ (Or.inl ⟨by rfl, ?hy⟩) ?_; (case hy => (rintro W ⟨i0, i2, -⟩; have c0 := (show At W _ _ _ from i0 _ rfl).cell; have c2 := (show At W _ _ _ from i2 _ rfl).cell; (try simp only [cSeg,prC] at c0 c2); (go_simp; first | done | (rw [tz]; done) | exact HZ.out | exact ba_empty HZ.out | (have := HZ.out; omega)))))
 | (refine tU 10 rfl ?_)
 simp only [zz]
 refine tW 11 rfl ?_
 simp only [zz]
 refine tW 12 rfl ?_
 simp only [zz]
 first
 | (refine tW 13 rfl ?_)
 | (refine tU 13 rfl ?_)
 simp only [zz]
 first
 | (refine tW 14 rfl ?_)
 | (refine tU 14 rfl ?_)
 simp only [zz]
 first
 | (refine tW 15 rfl ?_)
 | (refine tU 15 rfl ?_)
 simp only [zz]
 first
 | (refine tW 16 rfl ?_)
 | (refine tU 16 rfl ?_)
 simp only [zz]
 first
 | (refine tW 17 rfl ?_)
 | (refine tU 17 rfl ?_)
 simp only [zz]
 first
 | (refine tL 18 (v := ?_) rfl ⟨fun r hr => hM.get 0 hr, fun r hr => hM.get 2 hr, trivial⟩ (Or.inl ⟨by rfl, ?hy⟩) ?_; (case hy => (rintro W ⟨i0, i2, -⟩; have c0 := (show At W _ _ _ from i0 _ rfl).cell; have c2 := (show At W _ _ _ from i2 _ rfl).cell; (try simp only [cSeg,prC] at c0 c2); (try simp only [HTO.out] at c2); go_simp; (try with_reducible rfl))))
 | (refine tL 18 (v := undef) rfl ⟨fun r hr => hM.get 0 hr, fun r hr => hM.get 2 hr, trivial⟩ (Or.inr ⟨by rfl, rfl⟩) ?_)
 simp only [zz]
 first
 | (refine tW 19 rfl ?_)
 | (refine tU 19 rfl ?_)
 simp only [zz]
 first
 | (refine tW 20 rfl ?_)
 | (refine tU 20 rfl ?_)
 simp only [zz]
 first
 | (refine tL 21 (v := ?_) rfl ⟨fun r hr => hM.get 0 hr, fun r hr => hM.get 2 hr, trivial⟩ (Or.inl ⟨by rfl, ?hy⟩) ?_; (case hy => (rintro W ⟨i0, i2, -⟩; have c0 := (show At W _ _ _ from i0 _ rfl).cell; have c2 := (show At W _ _ _ from i2 _ rfl).cell; (try simp only [cSeg,prC] at c0 c2); (try simp only [HTO.out] at c2); go_simp; (try with_reducible rfl))))
 | (refine tL 21 (v := undef) rfl ⟨fun r hr => hM.get 0 hr, fun r hr => hM.get 2 hr, trivial⟩ (Or.inr ⟨by rfl, rfl⟩) ?_)
 simp only [zz]
 first
 | (refine tW 22 rfl ?_)
 | (refine tU 22 rfl ?_)
 simp only [zz]
 first
 | (refine tL 23 (v := ?_) rfl ⟨fun r hr => hM.get 0 hr, fun r hr => hM.get 2 hr, trivial⟩ (Or.inl ⟨by rfl, ?hy⟩) ?_; (case hy => (rintro W ⟨i0, i2, -⟩; have c0 := (show At W _ _ _ from i0 _ rfl).cell; have c2 := (show At W _ _ _ from i2 _ rfl).cell; (try simp only [cSeg,prC] at c0 c2); (try simp only [HTO.out] at c2); go_simp; (try with_reducible rfl))))
 | (refine tL 23 (v := undef) rfl ⟨fun r hr => hM.get 0 hr, fun r hr => hM.get 2 hr, trivial⟩ (Or.inr ⟨by rfl, rfl⟩) ?_)
 simp only [zz]
 first
 | (refine tW 24 rfl ?_)
 | (refine tU 24 rfl ?_)
 simp only [zz]
 first
 | (refine tY 25 rfl ((.inl ⟨by rfl, fun w => exec_cv32 _ _ _ rfl Try.underlying3 Try.underlying22 _ rfl w⟩)) ?_)
 | (refine tU 25 rfl ?_)
 simp only [zz]
 (try simp only [Bool.not_true, Bool.not_false])
 first
 | (refine tW 26 rfl ?_)
 | (refine tU 26 rfl ?_)
 simp only [zz]
 first
 | (refine wpI_takeC (i := 27) rfl (by kernel_rfl) (by kernel_rfl) (by kernel_rfl) (by kernel_rfl) (by first | exact fun _ _ _ h => h | exact fun _ _ _ h => HQ0.out _ _ _ _ _ h) ⟨fun r hr => hM.get 0 hr, fun r hr => hM.get 2 hr, trivial⟩ ⟨by rfl, fun W hW => ⟨_, _, by (go_simp; first | done | rfl), (HLS.out W)⟩⟩ ?_)
 | (refine tU 27 rfl ?_)
 simp only [zz]
 refine tW 28 rfl ?_
 simp only [zz]
 refine wpI_done (by kernel_rfl) ?_ _
 (try simp only [zz])
 exact hK _ _ _ _ _ _ _ _ _ _ _ _ _ _ _ _ _ _ _ _ _ _ _ _ _ _ _ _ _ hM
set_option maxRecDepth 100000 in
set_option maxHeartbeats 8000000 in
theorem sd9a2 (HTO : Hid (q.t0 = true)) (HZ : Hid (¬ 0 < (g.b.size : Int)))
  (hK : ∀ (v49 v50 v51 v52 v53 v54 v55 v56 v57 v58 v59 v60 v61 v62 v63 v64 v65 v66 v67 v68 v69 v70 v71 v72 v73 v74 v75 v76 : Value) (W : World), MemX E w0 W (atR gs 33 (cSeg g) :: R :: prR gp ga gb va q :: m) → K ⟨(.pointer (some ⟨gp, 0, none⟩) :: u1 :: u2 :: .int .i64 0 :: u4 :: u5 :: .pointer (some ⟨gs, 0, none⟩) :: v7 :: u8 :: u9 :: u10 :: u11 :: u12 :: u13 :: u14 :: u15 :: u16 :: u17 :: u18 :: u19 :: u20 :: u21 :: u22 :: u23 :: u24 :: u25 :: u26 :: u27 :: u28 :: u29 :: u30 :: u31 :: u32 :: u33 :: u34 :: u35 :: u36 :: u37 :: u38 :: u39 :: u40 :: u41 :: u42 :: u43 :: u44 :: u45 :: u46 :: u47 :: u48 :: v49 :: v50 :: v51 :: v52 :: v53 :: v54 :: v55 :: v56 :: v57 :: v58 :: v59 :: v60 :: v61 :: v62 :: v63 :: v64 :: v65 :: v66 :: v67 :: v68 :: v69 :: v70 :: v71 :: v72 :: v73 :: v74 :: v75 :: v76 :: .bool false :: u78 :: u79 :: u80 :: u81 :: u82 :: u83 :: u84 :: u85 :: u86 :: u87 :: u88 :: u89 :: u90 :: u91 :: u92 :: u93 :: u94 :: u95 :: u96 :: u97 :: u98 :: u99 :: u100 :: u101 :: u102 :: u103 :: u104 :: u105 :: u106 :: u107 :: u108 :: u109 :: u110 :: u111 :: u112 :: u113 :: u114 :: u115 :: u116 :: u117 :: u118 :: u119 :: u120 :: u121 :: u122 :: u123 :: u124 :: u125 :: u126 :: u127 :: u128 :: u129 :: u130 :: u131 :: u132 :: u133 :: u134 :: u135 :: u136 :: u137 :: u138 :: u139 :: u140 :: []).toArray, []⟩ W) : Code.wp Try.prog (sdR 9) (Exit.then K Q0) ⟨(.pointer (some ⟨gp, 0, none⟩) :: u1 :: u2 :: .int .i64 0 :: u4 :: u5 :: .pointer (some ⟨gs, 0, none⟩) :: v7 :: u8 :: u9 :: u10 :: u11 :: u12 :: u13 :: u14 :: u15 :: u16 :: u17 :: u18 :: u19 :: u20 :: u21 :: u22 :: u23 :: u24 :: u25 :: u26 :: u27 :: u28 :: u29 :: u30 :: u31 :: u32 :: u33 :: u34 :: u35 :: u36 :: u37 :: u38 :: u39 :: u40 :: u41 :: u42 :: u43 :: u44 :: u45 :: u46 :: u47 :: u48 :: u49 :: u50 :: u51 :: u52 :: u53 :: u54 :: u55 :: u56 :: u57 :: u58 :: u59 :: u60 :: u61 :: u62 :: u63 :: u64 :: u65 :: u66 :: u67 :: u68 :: u69 :: u70 :: u71 :: u72 :: u73 :: u74 :: u75 :: u76 :: u77 :: u78 :: u79 :: u80 :: u81 :: u82 :: u83 :: u84 :: u85 :: u86 :: u87 :: u88 :: u89 :: u90 :: u91 :: u92 :: u93 :: u94 :: u95 :: u96 :: u97 :: u98 :: u99 :: u100 :: u101 :: u102 :: u103 :: u104 :: u105 :: u106 :: u107 :: u108 :: u109 :: u110 :: u111 :: u112 :: u113 :: u114 :: u115 :: u116 :: u117 :: u118 :: u119 :: u120 :: u121 :: u122 :: u123 :: u124 :: u125 :: u126 :: u127 :: u128 :: u129 :: u130 :: u131 :: u132 :: u133 :: u134 :: u135 :: u136 :: u137 :: u138 :: u139 :: u140 :: []).toArray, []⟩ w4 := by
 have tz : decide (0 < (g.b.size : Int)) = false := decide_eq_false HZ.out
 conv => arg 2; whnf
 refine wp_region_M [0,2] [] hM (by kernel_rfl) ?_
 clear hM
 intro wo hM
 refine tW 0 rfl ?_
 simp only [zz]
 refine tW 1 rfl ?_
 simp only [zz]
 refine tW 2 rfl ?_
 simp only [zz]
 refine tW 3 rfl ?_
 simp only [zz]
 refine tW 4 rfl ?_
 simp only [zz]
 refine tL 5 (v := ?_) rfl ⟨fun r hr => hM.get 0 hr, fun r hr => hM.get 2 hr, trivial⟩ (Or.inl ⟨by rfl, ?hy⟩) ?_
 case hy => (rintro W ⟨i0, i2, -⟩; have c0 := (show At W _ _ _ from i0 _ rfl).cell; have c2 := (show At W _ _ _ from i2 _ rfl).cell; (try simp only [cSeg,prC] at c0 c2); (try simp only [HTO.out] at c2); go_simp; (try with_reducible rfl))
 simp only [zz]
 refine tW 6 rfl ?_
 simp only [zz]
 first
 | (refine tW 7 rfl ?_)
 | (refine tU 7 rfl ?_)
 simp only [zz]
 first
 | (refine tL 8 (v := ?_) rfl ⟨fun r hr => hM.get 0 hr, fun r hr => hM.get 2 hr, trivial⟩ (Or.inl ⟨by rfl, ?hy⟩) ?_; (case hy => (rintro W ⟨i0, i2, -⟩; have c0 := (show At W _ _ _ from i0 _ rfl).cell; have c2 := (show At W _ _ _ from i2 _ rfl).cell; (try simp only [cSeg,prC] at c0 c2); (try simp only [HTO.out] at c2); go_simp; (try with_reducible rfl))))
 | (refine tL 8 (v := undef) rfl ⟨fun r hr => hM.get 0 hr, fun r hr => hM.get 2 hr, trivial⟩ (Or.inr ⟨by rfl, rfl⟩) ?_)
 simp only [zz]
 first
 | (refine tW 9 rfl ?_)
 | (refine tU 9 rfl ?_)
 simp only [zz]
 first
 | (refine tL 10 (v := .bool false) rfl ⟨fun r hr => hM.get 0 hr, fun r hr => hM.get 2 hr, trivial⟩ (Or.inl ⟨by rfl, ?hy⟩) ?_; (case hy => (rintro W ⟨i0, i2, -⟩; have c0 := (show At W _ _ _ from i0 _ rfl).cell; have c2 := (show At W _ _ _ from i2 _ rfl).cell; (try simp only [cSeg,prC] at c0 c2); (go_simp; first | done | (rw [tz]; done) | exact HZ.out | exact ba_empty HZ.out | (have := HZ.out; omega)))))
 | (refine tU 10 rfl ?_)
 simp only [zz]
 refine tW 11 rfl ?_
 simp only [zz]
 refine tW 12 rfl ?_
 simp only [zz]
 first
 | (refine tW 13 rfl ?_)
 | (refine tU 13 rfl ?_)
 simp only [zz]
 first
 | (refine tW 14 rfl ?_)
 | (refine tU 14 rfl ?_)
 simp only [zz]
 first
 | (refine tW 15 rfl ?_)
 | (refine tU 15 rfl ?_)
 simp only [zz]
 first
 | (refine tW 16 rfl ?_)
 | (refine tU 16 rfl ?_)
 simp only [zz]
 first
 | (refine tW 17 rfl ?_)
 | (refine tU 17 rfl ?_)
 simp only [zz]
 first
 | (refine tL 18 (v := ?_) rfl ⟨fun r hr => hM.get 0 hr, fun r hr => hM.get 2 hr, trivial⟩ (Or.inl ⟨by rfl, ?hy⟩) ?_; (case hy => (rintro W ⟨i0, i2, -⟩; have c0 := (show At W _ _ _ from i0 _ rfl).cell; have c2 := (show At W _ _ _ from i2 _ rfl).cell; (try simp only [cSeg,prC] at c0 c2); (try simp only [HTO.out] at c2); go_simp; (try with_reducible rfl))))
 | (refine tL 18 (v := undef) rfl ⟨fun r hr => hM.get 0 hr, fun r hr => hM.get 2 hr, trivial⟩ (Or.inr ⟨by rfl, rfl⟩) ?_)
 simp only [zz]
 first
 | (refine tW 19 rfl ?_)
 | (refine tU 19 rfl ?_)
 simp only [zz]
 first
 | (refine tW 20 rfl ?_)
 | (refine tU 20 rfl ?_)
 simp only [zz]
 first
 | (refine tL 21 (v := ?_) rfl ⟨fun r hr => hM.get 0 hr, fun r hr => hM.get 2 hr, trivial⟩ (Or.inl ⟨by rfl, ?hy⟩) ?_; (case hy => (rintro W ⟨i0, i2, -⟩; have c0 := (show At W _ _ _ from i0 _ rfl).cell; have c2 := (show At W _ _ _ from i2 _ rfl).cell; (try simp only [cSeg,prC] at c0 c2); (try simp only [HTO.out] at c2); go_simp; (try with_reducible rfl))))
 | (refine tL 21 (v := undef) rfl ⟨fun r hr => hM.get 0 hr, fun r hr => hM.get 2 hr, trivial⟩ (Or.inr ⟨by rfl, rfl⟩) ?_)
 simp only [zz]
 first
 | (refine tW 22 rfl ?_)
 | (refine tU 22 rfl ?_)
 simp only [zz]
 first
 | (refine tL 23 (v := ?_) rfl ⟨fun r hr => hM.get 0 hr, fun r hr => hM.get 2 hr, trivial⟩ (Or.inl ⟨by rfl, ?hy⟩) ?_; (case hy => (rintro W ⟨i0, i2, -⟩; have c0 := (show At W _ _ _ from i0 _ rfl).cell; have c2 := (show At W _ _ _ from i2 _ rfl).cell; (try simp only [cSeg,prC] at c0 c2); (try simp only [HTO.out] at c2); go_simp; (try with_reducible rfl))))
 | (refine tL 23 (v := undef) rfl ⟨fun r hr => hM.get 0 hr, fun r hr => hM.get 2 hr, trivial⟩ (Or.inr ⟨by rfl, rfl⟩) ?_)
 simp only [zz]
 first
 | (refine tW 24 rfl ?_)
 | (refine tU 24 rfl ?_)
 simp only [zz]
 first
 | (refine tY 25 rfl ((.inl ⟨by rfl, fun w => exec_cv32 _ _ _ rfl Try.underlying3 Try.underlying22 _ rfl w⟩)) ?_)
 | (refine tU 25 rfl ?_)
 simp only [zz]
 (try simp only [Bool.not_true, Bool.not_false])
 first
 | (refine tW 26 rfl ?_)
 | (refine tU 26 rfl ?_)
 simp only [zz]
 refine wpI_one (i := 27) rfl (by kernel_rfl) ?_
 (try simp only [zz])
 go_wp2_with (first
   | go_skip)
 refine contI_normal ⟨fun r hr => hM.get 0 hr, fun r hr => hM.get 2 hr, trivial⟩ ?_
 (try simp only [zz])
 refine tW 28 rfl ?_
 simp only [zz]
 refine wpI_done (by kernel_rfl) ?_ _
 (try simp only [zz])
 exact hK _ _ _ _ _ _ _ _ _ _ _ _ _ _ _ _ _ _ _ _ _ _ _ _ _ _ _ _ _ hM
end
section
variable {u1 u2 u4 u5 u8 u9 u10 u11 u12 u13 u14 u15 u16 u17 u18 u19 u20 u21 u22 u23 u24 u25 u26 u27 u28 u29 u30 u31 u32 u33 u34 u35 u36 u37 u38 u39 u40 u41 u42 u43 u44 u45 u46 u47 u48 u49 u50 u51 u52 u53 u54 u55 u56 u57 u58 u59 u60 u61 u62 u63 u64 u65 u66 u67 u68 u69 u70 u71 u72 u73 u74 u75 u76 u77 u78 u79 u80 u81 u82 u83 u84 u85 u86 u87 u88 u89 u90 u91 u92 u93 u94 u95 u96 u97 u98 u99 u100 u101 u102 u103 u104 u105 u106 u107 u108 u109 u110 u111 u112 u113 u114 u115 u116 u117 u118 u119 u120 u121 u122 u123 u124 u125 u126 u127 u128 u129 u130 u131 u132 u133 u134 u135 u136 u137 u138 u139 u140 : Value} (ed : Int) (E : Nat → Prop) (w0 : World) (gp ga gb gs : Nat) (va : Value) (q : KPa) (g : KSeg) (R : Res) (m : List Res) (w4 : World) (K : Act → World → Prop) (Q0 : Exit → Act → World → Prop)
 (hM : MemX E w0 w4 (atR gs 33 (cSeg g) :: R :: prR gp ga gb va q :: m))
 (HQ0 : Hid (∀ c d v a w, Q0 (.panic c) (Act.put a d v) w → Q0 (.panic c) a w))
include hM HQ0
set_option maxRecDepth 100000 in
set_option maxHeartbeats 8000000 in
theorem sd14a (hK : ∀ (v110 v111 v112 v113 v114 v115 v116 v117 v118 v119 v120 v121 v122 : Value) (W : World), MemX E w0 W (atR gs 33 (cSeg g) :: R :: prR gp ga gb va { q with e1 := ed, t1 := true } :: m) → K ⟨(.pointer (some ⟨gp, 0, none⟩) :: u1 :: u2 :: .int .i64 0 :: u4 :: u5 :: .pointer (some ⟨gs, 0, none⟩) :: .int .u32 ed :: u8 :: u9 :: u10 :: u11 :: u12 :: u13 :: u14 :: u15 :: u16 :: u17 :: u18 :: u19 :: u20 :: u21 :: u22 :: u23 :: u24 :: u25 :: u26 :: u27 :: u28 :: u29 :: u30 :: u31 :: u32 :: u33 :: u34 :: u35 :: u36 :: u37 :: u38 :: u39 :: u40 :: u41 :: u42 :: u43 :: u44 :: u45 :: u46 :: u47 :: u48 :: u49 :: u50 :: u51 :: u52 :: u53 :: u54 :: u55 :: u56 :: u57 :: u58 :: u59 :: u60 :: u61 :: u62 :: u63 :: u64 :: u65 :: u66 :: u67 :: u68 :: u69 :: u70 :: u71 :: u72 :: u73 :: u74 :: u75 :: u76 :: u77 :: u78 :: u79 :: u80 :: u81 :: u82 :: u83 :: u84 :: u85 :: u86 :: u87 :: u88 :: u89 :: u90 :: u91 :: u92 :: u93 :: u94 :: u95 :: u96 :: u97 :: u98 :: u99 :: u100 :: u101 :: u102 :: u103 :: u104 :: u105 :: u106 :: u107 :: u108 :: u109 :: v110 :: v111 :: v112 :: v113 :: v114 :: v115 :: v116 :: v117 :: v118 :: v119 :: v120 :: v121 :: v122 :: u123 :: u124 :: u125 :: u126 :: u127 :: u128 :: u129 :: u130 :: u131 :: u132 :: u133 :: u134 :: u135 :: u136 :: u137 :: u138 :: u139 :: u140 :: []).toArray, []⟩ W) : Code.wp Try.prog (sdR 14) (Exit.then K Q0) ⟨(.pointer (some ⟨gp, 0, none⟩) :: u1 :: u2 :: .int .i64 0 :: u4 :: u5 :: .pointer (some ⟨gs, 0, none⟩) :: .int .u32 ed :: u8 :: u9 :: u10 :: u11 :: u12 :: u13 :: u14 :: u15 :: u16 :: u17 :: u18 :: u19 :: u20 :: u21 :: u22 :: u23 :: u24 :: u25 :: u26 :: u27 :: u28 :: u29 :: u30 :: u31 :: u32 :: u33 :: u34 :: u35 :: u36 :: u37 :: u38 :: u39 :: u40 :: u41 :: u42 :: u43 :: u44 :: u45 :: u46 :: u47 :: u48 :: u49 :: u50 :: u51 :: u52 :: u53 :: u54 :: u55 :: u56 :: u57 :: u58 :: u59 :: u60 :: u61 :: u62 :: u63 :: u64 :: u65 :: u66 :: u67 :: u68 :: u69 :: u70 :: u71 :: u72 :: u73 :: u74 :: u75 :: u76 :: u77 :: u78 :: u79 :: u80 :: u81 :: u82 :: u83 :: u84 :: u85 :: u86 :: u87 :: u88 :: u89 :: u90 :: u91 :: u92 :: u93 :: u94 :: u95 :: u96 :: u97 :: u98 :: u99 :: u100 :: u101 :: u102 :: u103 :: u104 :: u105 :: u106 :: u107 :: u108 :: u109 :: u110 :: u111 :: u112 :: u113 :: u114 :: u115 :: u116 :: u117 :: u118 :: u119 :: u120 :: u121 :: u122 :: u123 :: u124 :: u125 :: u126 :: u127 :: u128 :: u129 :: u130 :: u131 :: u132 :: u133 :: u134 :: u135 :: u136 :: u137 :: u138 :: u139 :: u140 :: []).toArray, []⟩ w4 := by
 conv => arg 2; whnf
 refine wp_region_M [2] [10, 14] hM (by kernel_rfl) ?_
 clear hM
 intro wo hM
 refine tW 0 rfl ?_
 simp only [zz]
 refine tW 1 rfl ?_
 simp only [zz]
 refine tY 2 rfl ((.inl ⟨by rfl, fun w => exec_sub _ _ _ _ rfl 1 0 1 rfl rfl rfl w⟩)) ?_
 simp only [zz]
 (try simp only [Bool.not_true, Bool.not_false])
 refine tW 3 rfl ?_
 simp only [zz]
 refine tW 4 rfl ?_
 simp only [zz]
 refine tY 5 rfl ((.inl ⟨by rfl, fun w => exec_sub _ _ _ _ rfl 1 0 1 rfl rfl rfl w⟩)) ?_
 simp only [zz]
 (try simp only [Bool.not_true, Bool.not_false])
 refine tW 6 rfl ?_
 simp only [zz]
 refine tW 7 rfl ?_
 simp only [zz]
 refine tW 8 rfl ?_
 simp only [zz]
 refine tW 9 rfl ?_
 simp only [zz]
 refine tW 11 rfl ?_
 simp only [zz]
 refine tW 12 rfl ?_
 simp only [zz]
 refine wpI_one (i := 10) rfl (by kernel_rfl) ?_
 (try simp only [zz])
 go_wp2_with (first
   | go_skip
   | (((with_reducible refine at_store_ ?_); refine sM 2 hM rfl rfl rfl ?_; clear hM; intro W hM; simp only [zF, zE, prR, pr6, pr7, pr8, pr9, pr10, pr11, pr12, pr13, pr14, pr15, pr16, pr17, pr18, pr19] at hM)))
 refine contI_late (by decide) ?_
 (try simp only [zz])
 refine tW 13 rfl ?_
 simp only [zz]
 refine wpI_one (i := 14) rfl (by kernel_rfl) ?_
 (try simp only [zz])
 go_wp2_with (first
   | go_skip
   | (((with_reducible refine at_store_ ?_); refine sM 2 hM rfl rfl rfl ?_; clear hM; intro W hM; simp only [zF, zE, prR, pr6, pr7, pr8, pr9, pr10, pr11, pr12, pr13, pr14, pr15, pr16, pr17, pr18, pr19] at hM)))
 refine contI_late (by decide) ?_
 (try simp only [zz])
 refine wpI_done (by kernel_rfl) ?_ _
 (try simp only [zz])
 (exact hK _ _ _ _ _ _ _ _ _ _ _ _ _ _ hM)
end
section
variable {u1 u2 u3 u4 u5 u7 u8 u9 u10 u11 u12 u13 u14 u15 u16 u17 u18 u19 u20 u21 u22 u23 u24 u25 u26 u27 u28 u29 u30 u31 u32 u33 u34 u35 u36 u37 u38 u39 u40 u41 u42 u43 u44 u45 u46 u47 u48 u49 u50 u51 u52 u53 u54 u55 u56 u57 u58 u59 u60 u61 u62 u63 u64 u65 u66 u67 u68 u69 u70 u71 u72 u73 u74 u75 u76 u77 u78 u79 u80 u81 u82 u83 u84 u85 u86 u87 u88 u89 u90 u91 u92 u93 u94 u95 u96 u97 u98 u99 u100 u101 u102 u103 u104 u105 u106 u107 u108 u109 u110 u111 u112 u113 u114 u115 u116 u117 u118 u119 u120 u121 u122 u123 u124 u125 u126 u127 u128 u129 u130 u131 u132 u133 u134 u135 u136 u137 u138 u139 u140 : Value} (E : Nat → Prop) (w0 : World) (gp ga gb gs : Nat) (Aa : Option Addr) (na qa : Nat) (q : KPa) (g : KSeg) (R : Res) (l1 : List KSeg) (m : List Res) (w4 : World) (Q0 : Exit → Act → World → Prop)
 (hM : MemX E w0 w4 (atR gs 33 (cSeg g) :: R :: prR gp ga gb (.slice Aa na qa) q :: rowR 13 cSeg (.slice Aa na qa) l1 :: m))
 (HQ0 : Hid (∀ c d v a w, Q0 (.panic c) (Act.put a d v) w → Q0 (.panic c) a w)) (HAB : Hid (l1.length ≤ 1000000000))
include hM HQ0 HAB
set_option maxRecDepth 100000 in
set_option maxHeartbeats 8000000 in
theorem sd16 (hK : ∀ (v129 v130 v131 v132 v133 v134 v135 v136 v137 v138 : Value) (An : Option Addr) (nN qn g5 : Nat) (W : World), MemX E w0 W (atR g5 33 (cSeg g) :: atR gs 33 (cSeg g) :: R :: prR gp ga gb (.slice An nN qn) q :: rowR 13 cSeg (.slice An nN qn) (l1 ++ [g]) :: m) → Q0 .normal ⟨(.pointer (some ⟨gp, 0, none⟩) :: u1 :: u2 :: u3 :: u4 :: u5 :: .pointer (some ⟨gs, 0, none⟩) :: u7 :: u8 :: u9 :: u10 :: u11 :: u12 :: u13 :: u14 :: u15 :: u16 :: u17 :: u18 :: u19 :: u20 :: u21 :: u22 :: u23 :: u24 :: u25 :: u26 :: u27 :: u28 :: u29 :: u30 :: u31 :: u32 :: u33 :: u34 :: u35 :: u36 :: u37 :: u38 :: u39 :: u40 :: u41 :: u42 :: u43 :: u44 :: u45 :: u46 :: u47 :: u48 :: u49 :: u50 :: u51 :: u52 :: u53 :: u54 :: u55 :: u56 :: u57 :: u58 :: u59 :: u60 :: u61 :: u62 :: u63 :: u64 :: u65 :: u66 :: u67 :: u68 :: u69 :: u70 :: u71 :: u72 :: u73 :: u74 :: u75 :: u76 :: u77 :: u78 :: u79 :: u80 :: u81 :: u82 :: u83 :: u84 :: u85 :: u86 :: u87 :: u88 :: u89 :: u90 :: u91 :: u92 :: u93 :: u94 :: u95 :: u96 :: u97 :: u98 :: u99 :: u100 :: u101 :: u102 :: u103 :: u104 :: u105 :: u106 :: u107 :: u108 :: u109 :: u110 :: u111 :: u112 :: u113 :: u114 :: u115 :: u116 :: u117 :: u118 :: u119 :: u120 :: u121 :: u122 :: u123 :: u124 :: u125 :: u126 :: u127 :: u128 :: v129 :: v130 :: v131 :: v132 :: v133 :: v134 :: v135 :: v136 :: v137 :: v138 :: u139 :: u140 :: []).toArray, []⟩ W) : Code.wp Try.prog (sdR 16) Q0 ⟨(.pointer (some ⟨gp, 0, none⟩) :: u1 :: u2 :: u3 :: u4 :: u5 :: .pointer (some ⟨gs, 0, none⟩) :: u7 :: u8 :: u9 :: u10 :: u11 :: u12 :: u13 :: u14 :: u15 :: u16 :: u17 :: u18 :: u19 :: u20 :: u21 :: u22 :: u23 :: u24 :: u25 :: u26 :: u27 :: u28 :: u29 :: u30 :: u31 :: u32 :: u33 :: u34 :: u35 :: u36 :: u37 :: u38 :: u39 :: u40 :: u41 :: u42 :: u43 :: u44 :: u45 :: u46 :: u47 :: u48 :: u49 :: u50 :: u51 :: u52 :: u53 :: u54 :: u55 :: u56 :: u57 :: u58 :: u59 :: u60 :: u61 :: u62 :: u63 :: u64 :: u65 :: u66 :: u67 :: u68 :: u69 :: u70 :: u71 :: u72 :: u73 :: u74 :: u75 :: u76 :: u77 :: u78 :: u79 :: u80 :: u81 :: u82 :: u83 :: u84 :: u85 :: u86 :: u87 :: u88 :: u89 :: u90 :: u91 :: u92 :: u93 :: u94 :: u95 :: u96 :: u97 :: u98 :: u99 :: u100 :: u101 :: u102 :: u103 :: u104 :: u105 :: u106 :: u107 :: u108 :: u109 :: u110 :: u111 :: u112 :: u113 :: u114 :: u115 :: u116 :: u117 :: u118 :: u119 :: u120 :: u121 :: u122 :: u123 :: u124 :: u125 :: u126 :: u127 :: u128 :: u129 :: u130 :: u131 :: u132 :: u133 :: u134 :: u135 :: u136 :: u137 :: u138 :: u139 :: u140 :: []).toArray, []⟩ w4 := by
 conv => arg 2; whnf
 refine wp_region_M [0,2] [10] hM (by kernel_rfl) ?_
 clear hM
 intro wo hM
 refine tW 0 rfl ?_
 simp only [zz]
 refine tW 1 rfl ?_
 simp only [zz]
 refine tW 2 rfl ?_
 simp only [zz]
 refine tW 3 rfl ?_
 simp only [zz]
 refine tL 4 (v := ?_) rfl ⟨fun r hr => (by first | exact hM.get 0 hr | exact hM.get 1 hr), fun r hr => (by first | exact hM.get 2 hr | exact hM.get 3 hr), trivial⟩ (Or.inl ⟨by rfl, ?hy⟩) ?_
 case hy => (rintro W ⟨i0, i2, -⟩; have c0 := (show At W _ _ _ from i0 _ rfl).cell; have c2 := (show At W _ _ _ from i2 _ rfl).cell; (try simp only [cSeg,prC] at c0 c2); go_simp; (try with_reducible rfl))
 simp only [zz]
 refine tL 5 (v := .agg (cSeg g).toArray) rfl ⟨fun r hr => (by first | exact hM.get 0 hr | exact hM.get 1 hr), fun r hr => (by first | exact hM.get 2 hr | exact hM.get 3 hr), trivial⟩ (Or.inl ⟨by rfl, ?hy⟩) ?_
 case hy => (rintro W ⟨i0, i2, -⟩; have c0 := (show At W _ _ _ from i0 _ rfl).cell; have c2 := (show At W _ _ _ from i2 _ rfl).cell; (try simp only [cSeg,prC] at c0 c2); exact exec_loadw _ _ rfl gs 0 rfl (cSeg g) _ Try.underlying33 rfl sz_Seg (range_cells c0))
 simp only [zz]
 refine wpI_one (i := 6) rfl (by kernel_rfl) ?_
 (try simp only [zz])
 go_wp2_with (first
   | go_skip
   | (((with_reducible refine at_bslice_ ?_); refine wpList_bslice_mem rfl _ 33 _ rfl Try.underlying30 _ zv_Seg (cSeg g) rfl rfl sz_Seg (Nat.le_of_ble_eq_true rfl) (Nat.le_of_ble_eq_true rfl) hM ?_; clear hM; intro g5 W hM; replace hM := cn_last hM)))
 refine contI_normal ⟨fun r hr => (by first | exact hM.get 0 hr | exact hM.get 1 hr), fun r hr => (by first | exact hM.get 2 hr | exact hM.get 3 hr), trivial⟩ ?_
 (try simp only [zz])
 refine wpI_one (i := 7) rfl (by kernel_rfl) ?_
 (try simp only [zz])
 go_wp2_with (first
   | go_skip
   | (((with_reducible refine at_append_ ?_); refine wpList_append_row (f := cSeg) (size := 13) rfl _ _ _ 33 rfl Try.underlying30 80 elem_Seg (by decide) 4 0 _ _ l1 g hM rfl rfl rfl 1 rfl rfl (one_cSeg _) (by have := HAB.out; omega) (by simp only [maxLen]; have := HAB.out; omega) ?_; clear hM; intro vN W hM; simp only [zF, zE] at hM; obtain ⟨An, qn, hvn⟩ := (hM.row (f := cSeg) (size := 13) (rs := l1 ++ [g]) 4 rfl).form; obtain ⟨nN, hnN⟩ : ∃ z, z = (l1 ++ [g]).length := ⟨_, rfl⟩; rw [← hnN] at hvn; clear hnN; subst hvn)))
 refine contI_normal ⟨fun r hr => (by first | exact hM.get 0 hr | exact hM.get 1 hr), fun r hr => (by first | exact hM.get 2 hr | exact hM.get 3 hr), trivial⟩ ?_
 (try simp only [zz])
 refine tW 8 rfl ?_
 simp only [zz]
 refine tW 9 rfl ?_
 simp only [zz]
 refine wpI_one (i := 10) rfl (by kernel_rfl) ?_
 (try simp only [zz])
 go_wp2_with (first
   | go_skip
   | (((with_reducible refine at_store_ ?_); refine sM 3 hM rfl rfl rfl ?_; clear hM; intro W hM; simp only [zF, zE, prR, pr6, pr7, pr8, pr9, pr10, pr11, pr12, pr13, pr14, pr15, pr16, pr17, pr18, pr19] at hM)))
 refine contI_late (by decide) ?_
 (try simp only [zz])
 refine wpI_done (by kernel_rfl) ?_ _
 (try simp only [zz])
 exact hK _ _ _ _ _ _ _ _ _ _ An nN qn g5 _ hM
end
section
variable {u1 u2 u4 u5 u8 u9 u10 u11 u12 u13 u14 u15 u16 u17 u18 u19 u20 u21 u22 u23 u24 u25 u26 u27 u28 u29 u30 u31 u32 u33 u34 u35 u36 u37 u38 u39 u40 u41 u42 u43 u44 u45 u46 u47 u48 u49 u50 u51 u52 u53 u54 u55 u56 u57 u58 u59 u60 u61 u62 u63 u64 u65 u66 u67 u68 u69 u70 u71 u72 u73 u74 u75 u76 u77 u78 u79 u80 u81 u82 u83 u84 u85 u86 u87 u88 u89 u90 u91 u92 u93 u94 u95 u96 u97 u98 u99 u100 u101 u102 u103 u104 u105 u106 u107 u108 u109 u110 u111 u112 u113 u114 u115 u116 u117 u118 u119 u120 u121 u122 u123 u124 u125 u126 u127 u128 u129 u130 u131 u132 u133 u134 u135 u136 u137 u138 u139 u140 : Value} {v7 : Value} (E : Nat → Prop) (w0 : World) (gp ga gb gs : Nat) (va : Value) (q : KPa) (g : KSeg) (R : Res) (m : List Res) (w4 : World) (K : Act → World → Prop) (Q0 : Exit → Act → World → Prop)
 (hM : MemX E w0 w4 (atR gs 33 (cSeg g) :: R :: prR gp ga gb va q :: m))
 (HQ0 : Hid (∀ c d v a w, Q0 (.panic c) (Act.put a d v) w → Q0 (.panic c) a w))
include hM HQ0
set_option maxRecDepth 100000 in
set_option maxHeartbeats 8000000 in
theorem sd7b (hg1 : g.fa = 2 ∧ g.fp = 80) (hg2 : g.ta = 1 ∧ g.tp = 40000) (HCK : Hid (∀ W, Calls Try.prog 47 #[.agg (cSeg g).toArray] W fun e w' => e = .returned (.int .i64 0) ∧ Below W.heap.size W w'))
  (hK : ∀ (v23 v24 v25 v26 v27 v28 v29 v30 v31 v32 v33 v34 v35 v36 v37 v38 v39 v40 v41 v42 v43 v44 v45 v46 v47 : Value) (W : World), MemX E w0 W (atR gs 33 (cSeg g) :: R :: prR gp ga gb va q :: m) → K ⟨(.pointer (some ⟨gp, 0, none⟩) :: u1 :: u2 :: .int .i64 1 :: u4 :: u5 :: .pointer (some ⟨gs, 0, none⟩) :: v7 :: u8 :: u9 :: u10 :: u11 :: u12 :: u13 :: u14 :: u15 :: u16 :: u17 :: u18 :: u19 :: u20 :: u21 :: u22 :: v23 :: v24 :: v25 :: v26 :: v27 :: v28 :: v29 :: v30 :: v31 :: v32 :: v33 :: v34 :: v35 :: v36 :: v37 :: v38 :: v39 :: v40 :: v41 :: v42 :: v43 :: v44 :: v45 :: v46 :: v47 :: .bool false :: u49 :: u50 :: u51 :: u52 :: u53 :: u54 :: u55 :: u56 :: u57 :: u58 :: u59 :: u60 :: u61 :: u62 :: u63 :: u64 :: u65 :: u66 :: u67 :: u68 :: u69 :: u70 :: u71 :: u72 :: u73 :: u74 :: u75 :: u76 :: u77 :: u78 :: u79 :: u80 :: u81 :: u82 :: u83 :: u84 :: u85 :: u86 :: u87 :: u88 :: u89 :: u90 :: u91 :: u92 :: u93 :: u94 :: u95 :: u96 :: u97 :: u98 :: u99 :: u100 :: u101 :: u102 :: u103 :: u104 :: u105 :: u106 :: u107 :: u108 :: u109 :: u110 :: u111 :: u112 :: u113 :: u114 :: u115 :: u116 :: u117 :: u118 :: u119 :: u120 :: u121 :: u122 :: u123 :: u124 :: u125 :: u126 :: u127 :: u128 :: u129 :: u130 :: u131 :: u132 :: u133 :: u134 :: u135 :: u136 :: u137 :: u138 :: u139 :: u140 :: []).toArray, []⟩ W) : Code.wp Try.prog (sdR 7) (Exit.then K Q0) ⟨(.pointer (some ⟨gp, 0, none⟩) :: u1 :: u2 :: .int .i64 1 :: u4 :: u5 :: .pointer (some ⟨gs, 0, none⟩) :: v7 :: u8 :: u9 :: u10 :: u11 :: u12 :: u13 :: u14 :: u15 :: u16 :: u17 :: u18 :: u19 :: u20 :: u21 :: u22 :: u23 :: u24 :: u25 :: u26 :: u27 :: u28 :: u29 :: u30 :: u31 :: u32 :: u33 :: u34 :: u35 :: u36 :: u37 :: u38 :: u39 :: u40 :: u41 :: u42 :: u43 :: u44 :: u45 :: u46 :: u47 :: u48 :: u49 :: u50 :: u51 :: u52 :: u53 :: u54 :: u55 :: u56 :: u57 :: u58 :: u59 :: u60 :: u61 :: u62 :: u63 :: u64 :: u65 :: u66 :: u67 :: u68 :: u69 :: u70 :: u71 :: u72 :: u73 :: u74 :: u75 :: u76 :: u77 :: u78 :: u79 :: u80 :: u81 :: u82 :: u83 :: u84 :: u85 :: u86 :: u87 :: u88 :: u89 :: u90 :: u91 :: u92 :: u93 :: u94 :: u95 :: u96 :: u97 :: u98 :: u99 :: u100 :: u101 :: u102 :: u103 :: u104 :: u105 :: u106 :: u107 :: u108 :: u109 :: u110 :: u111 :: u112 :: u113 :: u114 :: u115 :: u116 :: u117 :: u118 :: u119 :: u120 :: u121 :: u122 :: u123 :: u124 :: u125 :: u126 :: u127 :: u128 :: u129 :: u130 :: u131 :: u132 :: u133 :: u134 :: u135 :: u136 :: u137 :: u138 :: u139 :: u140 :: []).toArray, []⟩ w4 := by
 have HE1 := Lib.hid (fun W => (by have h := eqB_End g.fa g.fp 2 80 W; rw [decide_eq_true hg1] at h; exact h : (Op.equalIn 10000 29 (.agg #[.int .u32 g.fa, .int .i64 g.fp]) (.agg #[.int .u32 2, .int .i64 80])).run Try.prog W = .ok true W))
 have HE2 := Lib.hid (fun W => (by have h := eqB_End g.ta g.tp 1 40000 W; rw [decide_eq_true hg2] at h; exact h : (Op.equalIn 10000 29 (.agg #[.int .u32 g.ta, .int .i64 g.tp]) (.agg #[.int .u32 1, .int .i64 40000])).run Try.prog W = .ok true W))
 clear hg1 hg2
 conv => arg 2; whnf
 refine wp_region_M [0,2] [] hM (by kernel_rfl) ?_
 clear hM
 intro wo hM
 refine tW 0 rfl ?_
 simp only [zz]
 refine tL 1 (v := .agg #[.int .u32 g.fa, .int .i64 g.fp]) rfl ⟨fun r hr => hM.get 0 hr, fun r hr => hM.get 2 hr, trivial⟩ (Or.inl ⟨by rfl, ?hy⟩) ?_
 case hy => (rintro W ⟨i0, i2, -⟩; have c0 := (show At W _ _ _ from i0 _ rfl).cell; have c2 := (show At W _ _ _ from i2 _ rfl).cell; (try simp only [cSeg,prC] at c0 c2); exact exec_loadw _ _ rfl gs 0 rfl [.int .u32 g.fa, .int .i64 g.fp] _ Try.underlying29 rfl sz_End (range_sub (cs := cSeg g) c0 0 _ rfl))
 simp only [zz]
 refine tW 2 rfl ?_
 simp only [zz]
 refine tW 3 rfl ?_
 simp only [zz]
 refine tW 4 rfl ?_
 simp only [zz]
 refine tW 5 rfl ?_
 simp only [zz]
 refine tW 6 rfl ?_
 simp only [zz]
 refine tL 7 (v := .agg #[.int .u32 2, .int .i64 80]) rfl ⟨fun r hr => hM.get 0 hr, fun r hr => hM.get 2 hr, trivial⟩ (Or.inl ⟨by rfl, ?hy⟩) ?_
 case hy => (rintro W ⟨i0, i2, -⟩; have c0 := (show At W _ _ _ from i0 _ rfl).cell; have c2 := (show At W _ _ _ from i2 _ rfl).cell; (try simp only [cSeg,prC] at c0 c2); exact exec_loadw _ _ rfl gp 4 rfl [.int .u32 2, .int .i64 80] _ Try.underlying29 rfl sz_End (range_sub (cs := prC ga gb va q) c2 4 _ rfl))
 simp only [zz]
 refine tY 8 rfl ((.inl ⟨by rfl, fun w => exec_neq _ _ _ _ rfl _ _ rfl rfl eg_End _ HE1.out w⟩)) ?_
 simp only [zz]
 (try simp only [Bool.not_true, Bool.not_false])
 refine tW 9 rfl ?_
 simp only [zz]
 first
 | (refine tW 10 rfl ?_)
 | (refine tU 10 rfl ?_)
 simp only [zz]
 first
 | (refine tL 11 (v := .agg #[.int .u32 g.ta, .int .i64 g.tp]) rfl ⟨fun r hr => hM.get 0 hr, fun r hr => hM.get 2 hr, trivial⟩ (Or.inl ⟨by rfl, ?hy⟩) ?_; (case hy => (rintro W ⟨i0, i2, -⟩; have c0 := (show At W _ _ _ from i0 _ rfl).cell; have c2 := (show At W _ _ _ from i2 _ rfl).cell; (try simp only [cSeg,prC] at c0 c2); exact exec_loadw _ _ rfl gs 2 rfl [.int .u32 g.ta, .int .i64 g.tp] _ Try.underlying29 rfl sz_End (range_sub (cs := cSeg g) c0 2 _ rfl))))
 | (refine tU 11 rfl ?_)
 simp only [zz]
 first
 | (refine tW 12 rfl ?_)
 | (refine tU 12 rfl ?_)
 simp only [zz]
 first
 | (refine tW 13 rfl ?_)
 | (refine tU 13 rfl ?_)
 simp only [zz]
 first
 | (refine tY 14 rfl ((.inl ⟨by rfl, fun w => exec_sub _ _ _ _ rfl 1 1 0 rfl rfl rfl w⟩)) ?_)
 | (refine tU 14 rfl ?_)
 simp only [zz]
 (try simp only [Bool.not_true, Bool.not_false])
 first
 | (refine tW 15 rfl ?_)
 | (refine tU 15 rfl ?_)
 simp only [zz]
 first
 | (refine tW 16 rfl ?_)
 | (refine tU 16 rfl ?_)
 simp only [zz]
 first
 | (refine tW 17 rfl ?_)
 | (refine tU 17 rfl ?_)
 simp only [zz]
 first
 | (refine tL 18 (v := .agg #[.int .u32 1, .int .i64 40000]) rfl ⟨fun r hr => hM.get 0 hr, fun r hr => hM.get 2 hr, trivial⟩ (Or.inl ⟨by rfl, ?hy⟩) ?_; (case hy => (rintro W ⟨i0, i2, -⟩; have c0 := (show At W _ _ _ from i0 _ rfl).cell; have c2 := (show At W _ _ _ from i2 _ rfl).cell; (try simp only [cSeg,prC] at c0 c2); exact exec_loadw _ _ rfl gp 2 rfl [.int .u32 1, .int .i64 40000] _ Try.underlying29 rfl sz_End (range_sub (cs := prC ga gb va q) c2 2 _ rfl))))
 | (refine tU 18 rfl ?_)
 simp only [zz]
 first
 | (refine tY 19 rfl ((.inl ⟨by rfl, fun w => exec_neq _ _ _ _ rfl _ _ rfl rfl eg_End _ HE2.out w⟩)) ?_)
 | (refine tU 19 rfl ?_)
 simp only [zz]
 (try simp only [Bool.not_true, Bool.not_false])
 refine tW 20 rfl ?_
 simp only [zz]
 refine tW 21 rfl ?_
 simp only [zz]
 first
 | (refine tL 22 (v := .agg (cSeg g).toArray) rfl ⟨fun r hr => hM.get 0 hr, fun r hr => hM.get 2 hr, trivial⟩ (Or.inl ⟨by rfl, ?hy⟩) ?_; (case hy => (rintro W ⟨i0, i2, -⟩; have c0 := (show At W _ _ _ from i0 _ rfl).cell; have c2 := (show At W _ _ _ from i2 _ rfl).cell; (try simp only [cSeg,prC] at c0 c2); exact exec_loadw _ _ rfl gs 0 rfl (cSeg g) _ Try.underlying33 rfl sz_Seg (range_cells c0))))
 | (refine tU 22 rfl ?_)
 simp only [zz]
 refine wpI_one (i := 23) rfl (by kernel_rfl) ?_
 (try simp only [zz])
 go_wp2_with (first
   | go_skip
   | ((go_at_call 47; refine (HCK.out _).mono ?_; rintro e W ⟨rfl, hb⟩; replace hM := hM.kept hb; clear hb; dsimp only)))
 refine contI_normal ⟨fun r hr => hM.get 0 hr, fun r hr => hM.get 2 hr, trivial⟩ ?_
 (try simp only [zz])
 first
 | (refine tW 24 rfl ?_)
 | (refine tU 24 rfl ?_)
 simp only [zz]
 refine tW 25 rfl ?_
 simp only [zz]
 refine wpI_done (by kernel_rfl) ?_ _
 (try simp only [zz])
 exact hK _ _ _ _ _ _ _ _ _ _ _ _ _ _ _ _ _ _ _ _ _ _ _ _ _ _ hM
set_option maxRecDepth 100000 in
set_option maxHeartbeats 8000000 in
theorem sd9b0 (HTO : Hid (q.t1 = false))
  (hK : ∀ (v49 v50 v51 v52 v53 v54 v55 v56 v57 v58 v59 v60 v61 v62 v63 v64 v65 v66 v67 v68 v69 v70 v71 v72 v73 v74 v75 v76 : Value) (W : World), MemX E w0 W (atR gs 33 (cSeg g) :: R :: prR gp ga gb va q :: m) → K ⟨(.pointer (some ⟨gp, 0, none⟩) :: u1 :: u2 :: .int .i64 1 :: u4 :: u5 :: .pointer (some ⟨gs, 0, none⟩) :: v7 :: u8 :: u9 :: u10 :: u11 :: u12 :: u13 :: u14 :: u15 :: u16 :: u17 :: u18 :: u19 :: u20 :: u21 :: u22 :: u23 :: u24 :: u25 :: u26 :: u27 :: u28 :: u29 :: u30 :: u31 :: u32 :: u33 :: u34 :: u35 :: u36 :: u37 :: u38 :: u39 :: u40 :: u41 :: u42 :: u43 :: u44 :: u45 :: u46 :: u47 :: u48 :: v49 :: v50 :: v51 :: v52 :: v53 :: v54 :: v55 :: v56 :: v57 :: v58 :: v59 :: v60 :: v61 :: v62 :: v63 :: v64 :: v65 :: v66 :: v67 :: v68 :: v69 :: v70 :: v71 :: v72 :: v73 :: v74 :: v75 :: v76 :: .bool false :: u78 :: u79 :: u80 :: u81 :: u82 :: u83 :: u84 :: u85 :: u86 :: u87 :: u88 :: u89 :: u90 :: u91 :: u92 :: u93 :: u94 :: u95 :: u96 :: u97 :: u98 :: u99 :: u100 :: u101 :: u102 :: u103 :: u104 :: u105 :: u106 :: u107 :: u108 :: u109 :: u110 :: u111 :: u112 :: u113 :: u114 :: u115 :: u116 :: u117 :: u118 :: u119 :: u120 :: u121 :: u122 :: u123 :: u124 :: u125 :: u126 :: u127 :: u128 :: u129 :: u130 :: u131 :: u132 :: u133 :: u134 :: u135 :: u136 :: u137 :: u138 :: u139 :: u140 :: []).toArray, []⟩ W) : Code.wp Try.prog (sdR 9) (Exit.then K Q0) ⟨(.pointer (some ⟨gp, 0, none⟩) :: u1 :: u2 :: .int .i64 1 :: u4 :: u5 :: .pointer (some ⟨gs, 0, none⟩) :: v7 :: u8 :: u9 :: u10 :: u11 :: u12 :: u13 :: u14 :: u15 :: u16 :: u17 :: u18 :: u19 :: u20 :: u21 :: u22 :: u23 :: u24 :: u25 :: u26 :: u27 :: u28 :: u29 :: u30 :: u31 :: u32 :: u33 :: u34 :: u35 :: u36 :: u37 :: u38 :: u39 :: u40 :: u41 :: u42 :: u43 :: u44 :: u45 :: u46 :: u47 :: u48 :: u49 :: u50 :: u51 :: u52 :: u53 :: u54 :: u55 :: u56 :: u57 :: u58 :: u59 :: u60 :: u61 :: u62 :: u63 :: u64 :: u65 :: u66 :: u67 :: u68 :: u69 :: u70 :: u71 :: u72 :: u73 :: u74 :: u75 :: u76 :: u77 :: u78 :: u79 :: u80 :: u81 :: u82 :: u83 :: u84 :: u85 :: u86 :: u87 :: u88 :: u89 :: u90 :: u91 :: u92 :: u93 :: u94 :: u95 :: u96 :: u97 :: u98 :: u99 :: u100 :: u101 :: u102 :: u103 :: u104 :: u105 :: u106 :: u107 :: u108 :: u109 :: u110 :: u111 :: u112 :: u113 :: u114 :: u115 :: u116 :: u117 :: u118 :: u119 :: u120 :: u121 :: u122 :: u123 :: u124 :: u125 :: u126 :: u127 :: u128 :: u129 :: u130 :: u131 :: u132 :: u133 :: u134 :: u135 :: u136 :: u137 :: u138 :: u139 :: u140 :: []).toArray, []⟩ w4 := by
 conv => arg 2; whnf
 refine wp_region_M [0,2] [] hM (by kernel_rfl) ?_
 clear hM
 intro wo hM
 refine tW 0 rfl ?_
 simp only [zz]
 refine tW 1 rfl ?_
 simp only [zz]
 refine tW 2 rfl ?_
 simp only [zz]
 refine tW 3 rfl ?_
 simp only [zz]
 refine tW 4 rfl ?_
 simp only [zz]
 refine tL 5 (v := ?_) rfl ⟨fun r hr => hM.get 0 hr, fun r hr => hM.get 2 hr, trivial⟩ (Or.inl ⟨by rfl, ?hy⟩) ?_
 case hy => (rintro W ⟨i0, i2, -⟩; have c0 := (show At W _ _ _ from i0 _ rfl).cell; have c2 := (show At W _ _ _ from i2 _ rfl).cell; (try simp only [cSeg,prC] at c0 c2); (try simp only [HTO.out] at c2); go_simp; (try with_reducible rfl))
 simp only [zz]
 refine tW 6 rfl ?_
 simp only [zz]
 first
 | (refine tW 7 rfl ?_)
 | (refine tU 7 rfl ?_)
 simp only [zz]
 first
 | (refine tL 8 (v := ?_) rfl ⟨fun r hr => hM.get 0 hr, fun r hr => hM.get 2 hr, trivial⟩ (Or.inl ⟨by rfl, ?hy⟩) ?_; (case hy => (rintro W ⟨i0, i2, -⟩; have c0 := (show At W _ _ _ from i0 _ rfl).cell; have c2 := (show At W _ _ _ from i2 _ rfl).cell; (try simp only [cSeg,prC] at c0 c2); (try simp only [HTO.out] at c2); go_simp; (try with_reducible rfl))))
 | (refine tL 8 (v := undef) rfl ⟨fun r hr => hM.get 0 hr, fun r hr => hM.get 2 hr, trivial⟩ (Or.inr ⟨by rfl, rfl⟩) ?_)
 simp only [zz]
 first
 | (refine tW 9 rfl ?_)
 | (refine tU 9 rfl ?_)
 simp only [zz]
 first
 | (refine tW 10 rfl ?_)
 | (refine tU 10 rfl ?_)
 simp only [zz]
 refine tW 11 rfl ?_
 simp only [zz]
 refine tW 12 rfl ?_
 simp only [zz]
 first
 | (refine tW 13 rfl ?_)
 | (refine tU 13 rfl ?_)
 simp only [zz]
 first
 | (refine tW 14 rfl ?_)
 | (refine tU 14 rfl ?_)
 simp only [zz]
 first
 | (refine tW 15 rfl ?_)
 | (refine tU 15 rfl ?_)
 simp only [zz]
 first
 | (refine tW 16 rfl ?_)
 | (refine tU 16 rfl ?_)
 simp only [zz]
 first
 | (refine tW 17 rfl ?_)
 | (refine tU 17 rfl ?_)
 simp only [zz]
 first
 | (refine tL 18 (v := ?_) rfl ⟨fun r hr => hM.get 0 hr, fun r hr => hM.get 2 hr, trivial⟩ (Or.inl ⟨by rfl, ?hy⟩) ?_; (case hy => (rintro W ⟨i0, i2, -⟩; have c0 := (show At W _ _ _ from i0 _ rfl).cell; have c2 := (show At W _ _ _ from i2 _ rfl).cell; (try simp only [cSeg,prC] at c0 c2); (try simp only [HTO.out] at c2); go_simp; (try with_reducible rfl))))
 | (refine tL 18 (v := undef) rfl ⟨fun r hr => hM.get 0 hr, fun r hr => hM.get 2 hr, trivial⟩ (Or.inr ⟨by rfl, rfl⟩) ?_)
 simp only [zz]
 first
 | (refine tW 19 rfl ?_)
 | (refine tU 19 rfl ?_)
 simp only [zz]
 first
 | (refine tW 20 rfl ?_)
 | (refine tU 20 rfl ?_)
 simp only [zz]
 first
 | (refine tL 21 (v := ?_) rfl ⟨fun r hr => hM.get 0 hr, fun r hr => hM.get 2 hr, trivial⟩ (Or.inl ⟨by rfl, ?hy⟩) ?_; (case hy => (rintro W ⟨i0, i2, -⟩; have c0 := (show At W _ _ _ from i0 _ rfl).cell; have c2 := (show At W _ _ _ from i2 _ rfl).cell; (try simp only [cSeg,prC] at c0 c2); (try simp only [HTO.out] at c2); go_simp; (try with_reducible rfl))))
 | (refine tL 21 (v := undef) rfl ⟨fun r hr => hM.get 0 hr, fun r hr => hM.get 2 hr, trivial⟩ (Or.inr ⟨by rfl, rfl⟩) ?_)
 simp only [zz]
 first
 | (refine tW 22 rfl ?_)
 | (refine tU 22 rfl ?_)
 simp only [zz]
 first
 | (refine tL 23 (v := ?_) rfl ⟨fun r hr => hM.get 0 hr, fun r hr => hM.get 2 hr, trivial⟩ (Or.inl ⟨by rfl, ?hy⟩) ?_; (case hy => (rintro W ⟨i0, i2, -⟩; have c0 := (show At W _ _ _ from i0 _ rfl).cell; have c2 := (show At W _ _ _ from i2 _ rfl).cell; (try simp only [cSeg,prC] at c0 c2); (try simp only [HTO.out] at c2); go_simp; (try with_reducible rfl))))
 | (refine tL 23 (v := undef) rfl ⟨fun r hr => hM.get 0 hr, fun r hr => hM.get 2 hr, trivial⟩ (Or.inr ⟨by rfl, rfl⟩) ?_)
 simp only [zz]
 first
 | (refine tW 24 rfl ?_)
 | (refine tU 24 rfl ?_)
 simp only [zz]
 first
 | (refine tY 25 rfl ((.inl ⟨by rfl, fun w => exec_cv32 _ _ _ rfl Try.underlying3 Try.underlying22 _ rfl w⟩)) ?_)
 | (refine tU 25 rfl ?_)
 simp only [zz]
 (try simp only [Bool.not_true, Bool.not_false])
 first
 | (refine tW 26 rfl ?_)
 | (refine tU 26 rfl ?_)
 simp only [zz]
 refine wpI_one (i := 27) rfl (by kernel_rfl) ?_
 (try simp only [zz])
 go_wp2_with (first
   | go_skip)
 refine contI_normal ⟨fun r hr => hM.get 0 hr, fun r hr => hM.get 2 hr, trivial⟩ ?_
 (try simp only [zz])
 refine tW 28 rfl ?_
 simp only [zz]
 refine wpI_done (by kernel_rfl) ?_ _
 (try simp only [zz])
 exact hK _ _ _ _ _ _ _ _ _ _ _ _ _ _ _ _ _ _ _ _ _ _ _ _ _ _ _ _ _ hM
set_option maxRecDepth 100000 in
set_option maxHeartbeats 8000000 in
theorem sd9b1 (HTO : Hid (q.t1 = true)) (HZ : Hid (0 < (g.b.size : Int))) (HLS : Hid (∀ W, Calls Try.prog 51 #[.int .u32 (IntKind.u32.wrap (q.e1 + 1)), .int .u32 (IntKind.u32.wrap (g.seq + u32x g.b.size))] W fun e w' => e = .returned (.bool false) ∧ W = w'))
  (hK : ∀ (v49 v50 v51 v52 v53 v54 v55 v56 v57 v58 v59 v60 v61 v62 v63 v64 v65 v66 v67 v68 v69 v70 v71 v72 v73 v74 v75 v76 : Value) (W : World), MemX E w0 W (atR gs 33 (cSeg g) :: R :: prR gp ga gb va q :: m) → K ⟨(.pointer (some ⟨gp, 0, none⟩) :: u1 :: u2 :: .int .i64 1 :: u4 :: u5 :: .pointer (some ⟨gs, 0, none⟩) :: v7 :: u8 :: u9 :: u10 :: u11 :: u12 :: u13 :: u14 :: u15 :: u16 :: u17 :: u18 :: u19 :: u20 :: u21 :: u22 :: u23 :: u24 :: u25 :: u26 :: u27 :: u28 :: u29 :: u30 :: u31 :: u32 :: u33 :: u34 :: u35 :: u36 :: u37 :: u38 :: u39 :: u40 :: u41 :: u42 :: u43 :: u44 :: u45 :: u46 :: u47 :: u48 :: v49 :: v50 :: v51 :: v52 :: v53 :: v54 :: v55 :: v56 :: v57 :: v58 :: v59 :: v60 :: v61 :: v62 :: v63 :: v64 :: v65 :: v66 :: v67 :: v68 :: v69 :: v70 :: v71 :: v72 :: v73 :: v74 :: v75 :: v76 :: .bool false :: u78 :: u79 :: u80 :: u81 :: u82 :: u83 :: u84 :: u85 :: u86 :: u87 :: u88 :: u89 :: u90 :: u91 :: u92 :: u93 :: u94 :: u95 :: u96 :: u97 :: u98 :: u99 :: u100 :: u101 :: u102 :: u103 :: u104 :: u105 :: u106 :: u107 :: u108 :: u109 :: u110 :: u111 :: u112 :: u113 :: u114 :: u115 :: u116 :: u117 :: u118 :: u119 :: u120 :: u121 :: u122 :: u123 :: u124 :: u125 :: u126 :: u127 :: u128 :: u129 :: u130 :: u131 :: u132 :: u133 :: u134 :: u135 :: u136 :: u137 :: u138 :: u139 :: u140 :: []).toArray, []⟩ W) : Code.wp Try.prog (sdR 9) (Exit.then K Q0) ⟨(.pointer (some ⟨gp, 0, none⟩) :: u1 :: u2 :: .int .i64 1 :: u4 :: u5 :: .pointer (some ⟨gs, 0, none⟩) :: v7 :: u8 :: u9 :: u10 :: u11 :: u12 :: u13 :: u14 :: u15 :: u16 :: u17 :: u18 :: u19 :: u20 :: u21 :: u22 :: u23 :: u24 :: u25 :: u26 :: u27 :: u28 :: u29 :: u30 :: u31 :: u32 :: u33 :: u34 :: u35 :: u36 :: u37 :: u38 :: u39 :: u40 :: u41 :: u42 :: u43 :: u44 :: u45 :: u46 :: u47 :: u48 :: u49 :: u50 :: u51 :: u52 :: u53 :: u54 :: u55 :: u56 :: u57 :: u58 :: u59 :: u60 :: u61 :: u62 :: u63 :: u64 :: u65 :: u66 :: u67 :: u68 :: u69 :: u70 :: u71 :: u72 :: u73 :: u74 :: u75 :: u76 :: u77 :: u78 :: u79 :: u80 :: u81 :: u82 :: u83 :: u84 :: u85 :: u86 :: u87 :: u88 :: u89 :: u90 :: u91 :: u92 :: u93 :: u94 :: u95 :: u96 :: u97 :: u98 :: u99 :: u100 :: u101 :: u102 :: u103 :: u104 :: u105 :: u106 :: u107 :: u108 :: u109 :: u110 :: u111 :: u112 :: u113 :: u114 :: u115 :: u116 :: u117 :: u118 :: u119 :: u120 :: u121 :: u122 :: u123 :: u124 :: u125 :: u126 :: u127 :: u128 :: u129 :: u130 :: u131 :: u132 :: u133 :: u134 :: u135 :: u136 :: u137 :: u138 :: u139 :: u140 :: []).toArray, []⟩ w4 := by
 have tz : decide (0 < (g.b.size : Int)) = true := decide_eq_true HZ.out
 conv => arg 2; whnf
 refine wp_region_M [0,2] [] hM (by kernel_rfl) ?_
 clear hM
 intro wo hM
 refine tW 0 rfl ?_
 simp only [zz]
 refine tW 1 rfl ?_
 simp only [zz]
 refine tW 2 rfl ?_
 simp only [zz]
 refine tW 3 rfl ?_
 simp only [zz]
 refine tW 4 rfl ?_
 simp only [zz]
 refine tL 5 (v := ?_) rfl ⟨fun r hr => hM.get 0 hr, fun r hr => hM.get 2 hr, trivial⟩ (Or.inl ⟨by rfl, ?hy⟩) ?_
 case hy => (rintro W ⟨i0, i2, -⟩; have c0 := (show At W _ _ _ from i0 _ rfl).cell; have c2 := (show At W _ _ _ from i2 _ rfl).cell; (try simp only [cSeg,prC] at c0 c2); (try simp only [HTO.out] at c2); go_simp; (try with_reducible rfl))
 simp only [zz]
 refine tW 6 rfl ?_
 simp only [zz]
 first
 | (refine tW 7 rfl ?_)
 | (refine tU 7 rfl ?_)
 simp only [zz]
 first
 | (refine tL 8 (v := ?_) rfl ⟨fun r hr => hM.get 0 hr, fun r hr => hM.get 2 hr, trivial⟩ (Or.inl ⟨by rfl, ?hy⟩) ?_; (case hy => (rintro W ⟨i0, i2, -⟩; have c0 := (show At W _ _ _ from i0 _ rfl).cell; have c2 := (show At W _ _ _ from i2 _ rfl).cell; (try simp only [cSeg,prC] at c0 c2); (try simp only [HTO.out] at c2); go_simp; (try with_reducible rfl))))
 | (refine tL 8 (v := undef) rfl ⟨fun r hr => hM.get 0 hr, fun r hr => hM.get 2 hr, trivial⟩ (Or.inr ⟨by rfl, rfl⟩) ?_)
 simp only [zz]
 first
 | (refine tW 9 rfl ?_)
 | (refine tU 9 rfl ?_)
 simp only [zz]
 first
 | (refine tL 10 (v := .bool true) rfl ⟨fun r hr => hM.get 0 hr, fun r hr => hM.get 2 hr, trivial⟩ (Or.inl ⟨by rfl, ?hy⟩) ?_; (case hy => (rintro W ⟨i0, i2, -⟩; have c0 := (show At W _ _ _ from i0 _ rfl).cell; have c2 := (show At W _ _ _ from i2 _ rfl).cell; (try simp only [cSeg,prC] at c0 c2); (go_simp; first | done | (rw [tz]; done) | exact HZ.out | exact ba_empty HZ.out | (have := HZ.out; omega)))))
 | (refine tU 10 rfl ?_)
 simp only [zz]
 refine tW 11 rfl ?_
 simp only [zz]
 refine tW 12 rfl ?_
 simp only [zz]
 first
 | (refine tW 13 rfl ?_)
 | (refine tU 13 rfl ?_)
 simp only [zz]
 first
 | (refine tW 14 rfl ?_)
 | (refine tU 14 rfl ?_)
 simp only [zz]
 first
 | (refine tW 15 rfl ?_)
 | (refine tU 15 rfl ?_)
 simp only [zz]
 first
 | (refine tW 16 rfl ?_)
 | (refine tU 16 rfl ?_)
 simp only [zz]
 first
 | (refine tW 17 rfl ?_)
 | (refine tU 17 rfl ?_)
 simp only [zz]
 first
 | (refine tL 18 (v := ?_) rfl ⟨fun r hr => hM.get 0 hr, fun r hr => hM.get 2 hr, trivial⟩ (Or.inl ⟨by rfl, ?hy⟩) ?_; (case hy => (rintro W ⟨i0, i2, -⟩; have c0 := (show At W _ _ _ from i0 _ rfl).cell; have c2 := (show At W _ _ _ from i2 _ rfl).cell; (try simp only [cSeg,prC] at c0 c2); (try simp only [HTO.out] at c2); go_simp; (try with_reducible rfl))))
 | (refine tL 18 (v := undef) rfl ⟨fun r hr => hM.get 0 hr, fun r hr => hM.get 2 hr, trivial⟩ (Or.inr ⟨by rfl, rfl⟩) ?_)
 simp only [zz]
 first
 | (refine tW 19 rfl ?_)
 | (refine tU 19 rfl ?_)
 simp only [zz]
 first
 | (refine tW 20 rfl ?_)
 | (refine tU 20 rfl ?_)
 simp only [zz]
 first
 | (refine tL 21 (v := ?_) rfl ⟨fun r hr => hM.get 0 hr, fun r hr => hM.get 2 hr, trivial⟩ (Or.inl ⟨by rfl, ?hy⟩) ?_; (case hy => (rintro W ⟨i0, i2, -⟩; have c0 := (show At W _ _ _ from i0 _ rfl).cell; have c2 := (show At W _ _ _ from i2 _ rfl).cell; (try simp only [cSeg,prC] at c0 c2); (try simp only [HTO.out] at c2); go_simp; (try with_reducible rfl))))
 | (refine tL 21 (v := undef) rfl ⟨fun r hr => hM.get 0 hr, fun r hr => hM.get 2 hr, trivial⟩ (Or.inr ⟨by rfl, rfl⟩) ?_)
 simp only [zz]
 first
 | (refine tW 22 rfl ?_)
 | (refine tU 22 rfl ?_)
 simp only [zz]
 first
 | (refine tL 23 (v := ?_) rfl ⟨fun r hr => hM.get 0 hr, fun r hr => hM.get 2 hr, trivial⟩ (Or.inl ⟨by rfl, ?hy⟩) ?_; (case hy => (rintro W ⟨i0, i2, -⟩; have c0 := (show At W _ _ _ from i0 _ rfl).cell; have c2 := (show At W _ _ _ from i2 _ rfl).cell; (try simp only [cSeg,prC] at c0 c2); (try simp only [HTO.out] at c2); go_simp; (try with_reducible rfl))))
 | (refine tL 23 (v := undef) rfl ⟨fun r hr => hM.get 0 hr, fun r hr => hM.get 2 hr, trivial⟩ (Or.inr ⟨by rfl, rfl⟩) ?_)
 simp only [zz]
 first
 | (refine tW 24 rfl ?_)
 | (refine tU 24 rfl ?_)
 simp only [zz]
 first
 | (refine tY 25 rfl ((.inl ⟨by rfl, fun w => exec_cv32 _ _ _ rfl Try.underlying3 Try.underlying22 _ rfl w⟩)) ?_)
 | (refine tU 25 rfl ?_)
 simp only [zz]
 (try simp only [Bool.not_true, Bool.not_false])
 first
 | (refine tW 26 rfl ?_)
 | (refine tU 26 rfl ?_)
 simp only [zz]
 first
 | (refine wpI_takeC (i := 27) rfl (by kernel_rfl) (by kernel_rfl) (by kernel_rfl) (by kernel_rfl) (by first | exact fun _ _ _ h => h | exact fun _ _ _ h => HQ0.out _ _ _ _ _ h) ⟨fun r hr => hM.get 0 hr, fun r hr => hM.get 2 hr, trivial⟩ ⟨by rfl, fun W hW => ⟨_, _, by (go_simp; first | done | rfl), (HLS.out W)⟩⟩ ?_)
 | (refine tU 27 rfl ?_)
 simp only [zz]
 refine tW 28 rfl ?_
 simp only [zz]
 refine wpI_done (by kernel_rfl) ?_ _
 (try simp only [zz])
 exact hK _ _ _ _ _ _ _ _ _ _ _ _ _ _ _ _ _ _ _ _ _ _ _ _ _ _ _ _ _ hM
set_option maxRecDepth 100000 in
set_option maxHeartbeats 8000000 in
theorem sd9b2 (HTO : Hid (q.t1 = true)) (HZ : Hid (¬ 0 < (g.b.size : Int)))
  (hK : ∀ (v49 v50 v51 v52 v53 v54 v55 v56 v57 v58 v59 v60 v61 v62 v63 v64 v65 v66 v67 v68 v69 v70 v71 v72 v73 v74 v75 v76 : Value) (W : World), MemX E w0 W (atR gs 33 (cSeg g) :: R :: prR gp ga gb va q :: m) → K ⟨(.pointer (some ⟨gp, 0, none⟩) :: u1 :: u2 :: .int .i64 1 :: u4 :: u5 :: .pointer (some ⟨gs, 0, none⟩) :: v7 :: u8 :: u9 :: u10 :: u11 :: u12 :: u13 :: u14 :: u15 :: u16 :: u17 :: u18 :: u19 :: u20 :: u21 :: u22 :: u23 :: u24 :: u25 :: u26 :: u27 :: u28 :: u29 :: u30 :: u31 :: u32 :: u33 :: u34 :: u35 :: u36 :: u37 :: u38 :: u39 :: u40 :: u41 :: u42 :: u43 :: u44 :: u45 :: u46 :: u47 :: u48 :: v49 :: v50 :: v51 :: v52 :: v53 :: v54 :: v55 :: v56 :: v57 :: v58 :: v59 :: v60 :: v61 :: v62 :: v63 :: v64 :: v65 :: v66 :: v67 :: v68 :: v69 :: v70 :: v71 :: v72 :: v73 :: v74 :: v75 :: v76 :: .bool false :: u78 :: u79 :: u80 :: u81 :: u82 :: u83 :: u84 :: u85 :: u86 :: u87 :: u88 :: u89 :: u90 :: u91 :: u92 :: u93 :: u94 :: u95 :: u96 :: u97 :: u98 :: u99 :: u100 :: u101 :: u102 :: u103 :: u104 :: u105 :: u106 :: u107 :: u108 :: u109 :: u110 :: u111 :: u112 :: u113 :: u114 :: u115 :: u116 :: u117 :: u118 :: u119 :: u120 :: u121 :: u122 :: u123 :: u124 :: u125 :: u126 :: u127 :: u128 :: u129 :: u130 :: u131 :: u132 :: u133 :: u134 :: u135 :: u136 :: u137 :: u138 :: u139 :: u140 :: []).toArray, []⟩ W) : Code.wp Try.prog (sdR 9) (Exit.then K Q0) ⟨(.pointer (some ⟨gp, 0, none⟩) :: u1 :: u2 :: .int .i64 1 :: u4 :: u5 :: .pointer (some ⟨gs, 0, none⟩) :: v7 :: u8 :: u9 :: u10 :: u11 :: u12 :: u13 :: u14 :: u15 :: u16 :: u17 :: u18 :: u19 :: u20 :: u21 :: u22 :: u23 :: u24 :: u25 :: u26 :: u27 :: u28 :: u29 :: u30 :: u31 :: u32 :: u33 :: u34 :: u35 :: u36 :: u37 :: u38 :: u39 :: u40 :: u41 :: u42 :: u43 :: u44 :: u45 :: u46 :: u47 :: u48 :: u49 :: u50 :: u51 :: u52 :: u53 :: u54 :: u55 :: u56 :: u57 :: u58 :: u59 :: u60 :: u61 :: u62 :: u63 :: u64 :: u65 :: u66 :: u67 :: u68 :: u69 :: u70 :: u71 :: u72 :: u73 :: u74 :: u75 :: u76 :: u77 :: u78 :: u79 :: u80 :: u81 :: u82 :: u83 :: u84 :: u85 :: u86 :: u87 :: u88 :: u89 :: u90 :: u91 :: u92 :: u93 :: u94 :: u95 :: u96 :: u97 :: u98 :: u99 :: u100 :: u101 :: u102 :: u103 :: u104 :: u105 :: u106 :: u107 :: u108 :: u109 :: u110 :: u111 :: u112 :: u113 :: u114 :: u115 :: u116 :: u117 :: u118 :: u119 :: u120 :: u121 :: u122 :: u123 :: u124 :: u125 :: u126 :: u127 :: u128 :: u129 :: u130 :: u131 :: u132 :: u133 :: u134 :: u135 :: u136 :: u137 :: u138 :: u139 :: u140 :: []).toArray, []⟩ w4 := by
 have tz : decide (0 < (g.b.size : Int)) = false := decide_eq_false HZ.out
 conv => arg 2; whnf
 refine wp_region_M [0,2] [] hM (by kernel_rfl) ?_
 clear hM
 intro wo hM
 refine tW 0 rfl ?_
 simp only [zz]
 refine tW 1 rfl ?_
 simp only [zz]
 refine tW 2 rfl ?_
 simp only [zz]
 refine tW 3 rfl ?_
 simp only [zz]
 refine tW 4 rfl ?_
 simp only [zz]
 refine tL 5 (v := ?_) rfl ⟨fun r hr => hM.get 0 hr, fun r hr => hM.get 2 hr, trivial⟩ (Or.inl ⟨by rfl, ?hy⟩) ?_
 case hy => (rintro W ⟨i0, i2, -⟩; have c0 := (show At W _ _ _ from i0 _ rfl).cell; have c2 := (show At W _ _ _ from i2 _ rfl).cell; (try simp only [cSeg,prC] at c0 c2); (try simp only [HTO.out] at c2); go_simp; (try with_reducible rfl))
 simp only [zz]
 refine tW 6 rfl ?_
 simp only [zz]
 first
 | (refine tW 7 rfl ?_)
 | (refine tU 7 rfl ?_)
 simp only [zz]
 first
 | (refine tL 8 (v := ?_) rfl ⟨fun r hr => hM.get 0 hr, fun r hr => hM.get 2 hr, trivial⟩ (Or.inl ⟨by rfl, ?hy⟩) ?_; (case hy => (rintro W ⟨i0, i2, -⟩; have c0 := (show At W _ _ _ from i0 _ rfl).cell; have c2 := (show At W _ _ _ from i2 _ rfl).cell; (try simp only [cSeg,prC] at c0 c2); (try simp only [HTO.out] at c2); go_simp; (try with_reducible rfl))))
 | (refine tL 8 (v := undef) rfl ⟨fun r hr => hM.get 0 hr, fun r hr => hM.get 2 hr, trivial⟩ (Or.inr ⟨by rfl, rfl⟩) ?_)
 simp only [zz]
 first
 | (refine tW 9 rfl ?_)
 | (refine tU 9 rfl ?_)
 simp only [zz]
 first
 | (refine tL 10 (v := .bool false) rfl ⟨fun r hr => hM.get 0 hr, fun r hr => hM.get 2 hr, trivial⟩ (Or.inl ⟨by rfl, ?hy⟩) ?_; (case hy => (rintro W ⟨i0, i2, -⟩; have c0 := (show At W _ _ _ from i0 _ rfl).cell; have c2 := (show At W _ _ _ from i2 _ rfl).cell; (try simp only [cSeg,prC] at c0 c2); (go_simp; first | done | (rw [tz]; done) | exact HZ.out | exact ba_empty HZ.out | (have := HZ.out; omega)))))
 | (refine tU 10 rfl ?_)
 simp only [zz]
 refine tW 11 rfl ?_
 simp only [zz]
 refine tW 12 rfl ?_
 simp only [zz]
 first
 | (refine tW 13 rfl ?_)
 | (refine tU 13 rfl ?_)
 simp only [zz]
 first
 | (refine tW 14 rfl ?_)
 | (refine tU 14 rfl ?_)
 simp only [zz]
 first
 | (refine tW 15 rfl ?_)
 | (refine tU 15 rfl ?_)
 simp only [zz]
 first
 | (refine tW 16 rfl ?_)
 | (refine tU 16 rfl ?_)
 simp only [zz]
 first
 | (refine tW 17 rfl ?_)
 | (refine tU 17 rfl ?_)
 simp only [zz]
 first
 | (refine tL 18 (v := ?_) rfl ⟨fun r hr => hM.get 0 hr, fun r hr => hM.get 2 hr, trivial⟩ (Or.inl ⟨by rfl, ?hy⟩) ?_; (case hy => (rintro W ⟨i0, i2, -⟩; have c0 := (show At W _ _ _ from i0 _ rfl).cell; have c2 := (show At W _ _ _ from i2 _ rfl).cell; (try simp only [cSeg,prC] at c0 c2); (try simp only [HTO.out] at c2); go_simp; (try with_reducible rfl))))
 | (refine tL 18 (v := undef) rfl ⟨fun r hr => hM.get 0 hr, fun r hr => hM.get 2 hr, trivial⟩ (Or.inr ⟨by rfl, rfl⟩) ?_)
 simp only [zz]
 first
 | (refine tW 19 rfl ?_)
 | (refine tU 19 rfl ?_)
 simp only [zz]
 first
 | (refine tW 20 rfl ?_)
 | (refine tU 20 rfl ?_)
 simp only [zz]
 first
 | (refine tL 21 (v := ?_) rfl ⟨fun r hr => hM.get 0 hr, fun r hr => hM.get 2 hr, trivial⟩ (Or.inl ⟨by rfl, ?hy⟩) ?_; (case hy => (rintro W ⟨i0, i2, -⟩; have c0 := (show At W _ _ _ from i0 _ rfl).cell; have c2 := (show At W _ _ _ from i2 _ rfl).cell; (try simp only [cSeg,prC] at c0 c2); (try simp only [HTO.out] at c2); go_simp; (try with_reducible rfl))))
 | (refine tL 21 (v := undef) rfl ⟨fun r hr => hM.get 0 hr, fun r hr => hM.get 2 hr, trivial⟩ (Or.inr ⟨by rfl, rfl⟩) ?_)
 simp only [zz]
 first
 | (refine tW 22 rfl ?_)
 | (refine tU 22 rfl ?_)
 simp only [zz]
 first
 | (refine tL 23 (v := ?_) rfl ⟨fun r hr => hM.get 0 hr, fun r hr => hM.get 2 hr, trivial⟩ (Or.inl ⟨by rfl, ?hy⟩) ?_; (case hy => (rintro W ⟨i0, i2, -⟩; have c0 := (show At W _ _ _ from i0 _ rfl).cell; have c2 := (show At W _ _ _ from i2 _ rfl).cell; (try simp only [cSeg,prC] at c0 c2); (try simp only [HTO.out] at c2); go_simp; (try with_reducible rfl))))
 | (refine tL 23 (v := undef) rfl ⟨fun r hr => hM.get 0 hr, fun r hr => hM.get 2 hr, trivial⟩ (Or.inr ⟨by rfl, rfl⟩) ?_)
 simp only [zz]
 first
 | (refine tW 24 rfl ?_)
 | (refine tU 24 rfl ?_)
 simp only [zz]
 first
 | (refine tY 25 rfl ((.inl ⟨by rfl, fun w => exec_cv32 _ _ _ rfl Try.underlying3 Try.underlying22 _ rfl w⟩)) ?_)
 | (refine tU 25 rfl ?_)
 simp only [zz]
 (try simp only [Bool.not_true, Bool.not_false])
 first
 | (refine tW 26 rfl ?_)
 | (refine tU 26 rfl ?_)
 simp only [zz]
 refine wpI_one (i := 27) rfl (by kernel_rfl) ?_
 (try simp only [zz])
 go_wp2_with (first
   | go_skip)
 refine contI_normal ⟨fun r hr => hM.get 0 hr, fun r hr => hM.get 2 hr, trivial⟩ ?_
 (try simp only [zz])
 refine tW 28 rfl ?_
 simp only [zz]
 refine wpI_done (by kernel_rfl) ?_ _
 (try simp only [zz])
 exact hK _ _ _ _ _ _ _ _ _ _ _ _ _ _ _ _ _ _ _ _ _ _ _ _ _ _ _ _ _ hM
end
section
variable {u1 u2 u4 u5 u8 u9 u10 u11 u12 u13 u14 u15 u16 u17 u18 u19 u20 u21 u22 u23 u24 u25 u26 u27 u28 u29 u30 u31 u32 u33 u34 u35 u36 u37 u38 u39 u40 u41 u42 u43 u44 u45 u46 u47 u48 u49 u50 u51 u52 u53 u54 u55 u56 u57 u58 u59 u60 u61 u62 u63 u64 u65 u66 u67 u68 u69 u70 u71 u72 u73 u74 u75 u76 u77 u78 u79 u80 u81 u82 u83 u84 u85 u86 u87 u88 u89 u90 u91 u92 u93 u94 u95 u96 u97 u98 u99 u100 u101 u102 u103 u104 u105 u106 u107 u108 u109 u110 u111 u112 u113 u114 u115 u116 u117 u118 u119 u120 u121 u122 u123 u124 u125 u126 u127 u128 u129 u130 u131 u132 u133 u134 u135 u136 u137 u138 u139 u140 : Value} (ed : Int) (E : Nat → Prop) (w0 : World) (gp ga gb gs : Nat) (va : Value) (q : KPa) (g : KSeg) (R : Res) (m : List Res) (w4 : World) (K : Act → World → Prop) (Q0 : Exit → Act → World → Prop)
 (hM : MemX E w0 w4 (atR gs 33 (cSeg g) :: R :: prR gp ga gb va q :: m))
 (HQ0 : Hid (∀ c d v a w, Q0 (.panic c) (Act.put a d v) w → Q0 (.panic c) a w))
include hM HQ0
set_option maxRecDepth 100000 in
set_option maxHeartbeats 8000000 in
theorem sd14b (hK : ∀ (v110 v111 v112 v113 v114 v115 v116 v117 v118 v119 v120 v121 v122 : Value) (W : World), MemX E w0 W (atR gs 33 (cSeg g) :: R :: prR gp ga gb va { q with e0 := ed, t0 := true } :: m) → K ⟨(.pointer (some ⟨gp, 0, none⟩) :: u1 :: u2 :: .int .i64 1 :: u4 :: u5 :: .pointer (some ⟨gs, 0, none⟩) :: .int .u32 ed :: u8 :: u9 :: u10 :: u11 :: u12 :: u13 :: u14 :: u15 :: u16 :: u17 :: u18 :: u19 :: u20 :: u21 :: u22 :: u23 :: u24 :: u25 :: u26 :: u27 :: u28 :: u29 :: u30 :: u31 :: u32 :: u33 :: u34 :: u35 :: u36 :: u37 :: u38 :: u39 :: u40 :: u41 :: u42 :: u43 :: u44 :: u45 :: u46 :: u47 :: u48 :: u49 :: u50 :: u51 :: u52 :: u53 :: u54 :: u55 :: u56 :: u57 :: u58 :: u59 :: u60 :: u61 :: u62 :: u63 :: u64 :: u65 :: u66 :: u67 :: u68 :: u69 :: u70 :: u71 :: u72 :: u73 :: u74 :: u75 :: u76 :: u77 :: u78 :: u79 :: u80 :: u81 :: u82 :: u83 :: u84 :: u85 :: u86 :: u87 :: u88 :: u89 :: u90 :: u91 :: u92 :: u93 :: u94 :: u95 :: u96 :: u97 :: u98 :: u99 :: u100 :: u101 :: u102 :: u103 :: u104 :: u105 :: u106 :: u107 :: u108 :: u109 :: v110 :: v111 :: v112 :: v113 :: v114 :: v115 :: v116 :: v117 :: v118 :: v119 :: v120 :: v121 :: v122 :: u123 :: u124 :: u125 :: u126 :: u127 :: u128 :: u129 :: u130 :: u131 :: u132 :: u133 :: u134 :: u135 :: u136 :: u137 :: u138 :: u139 :: u140 :: []).toArray, []⟩ W) : Code.wp Try.prog (sdR 14) (Exit.then K Q0) ⟨(.pointer (some ⟨gp, 0, none⟩) :: u1 :: u2 :: .int .i64 1 :: u4 :: u5 :: .pointer (some ⟨gs, 0, none⟩) :: .int .u32 ed :: u8 :: u9 :: u10 :: u11 :: u12 :: u13 :: u14 :: u15 :: u16 :: u17 :: u18 :: u19 :: u20 :: u21 :: u22 :: u23 :: u24 :: u25 :: u26 :: u27 :: u28 :: u29 :: u30 :: u31 :: u32 :: u33 :: u34 :: u35 :: u36 :: u37 :: u38 :: u39 :: u40 :: u41 :: u42 :: u43 :: u44 :: u45 :: u46 :: u47 :: u48 :: u49 :: u50 :: u51 :: u52 :: u53 :: u54 :: u55 :: u56 :: u57 :: u58 :: u59 :: u60 :: u61 :: u62 :: u63 :: u64 :: u65 :: u66 :: u67 :: u68 :: u69 :: u70 :: u71 :: u72 :: u73 :: u74 :: u75 :: u76 :: u77 :: u78 :: u79 :: u80 :: u81 :: u82 :: u83 :: u84 :: u85 :: u86 :: u87 :: u88 :: u89 :: u90 :: u91 :: u92 :: u93 :: u94 :: u95 :: u96 :: u97 :: u98 :: u99 :: u100 :: u101 :: u102 :: u103 :: u104 :: u105 :: u106 :: u107 :: u108 :: u109 :: u110 :: u111 :: u112 :: u113 :: u114 :: u115 :: u116 :: u117 :: u118 :: u119 :: u120 :: u121 :: u122 :: u123 :: u124 :: u125 :: u126 :: u127 :: u128 :: u129 :: u130 :: u131 :: u132 :: u133 :: u134 :: u135 :: u136 :: u137 :: u138 :: u139 :: u140 :: []).toArray, []⟩ w4 := by
 conv => arg 2; whnf
 refine wp_region_M [2] [10, 14] hM (by kernel_rfl) ?_
 clear hM
 intro wo hM
 refine tW 0 rfl ?_
 simp only [zz]
 refine tW 1 rfl ?_
 simp only [zz]
 refine tY 2 rfl ((.inl ⟨by rfl, fun w => exec_sub _ _ _ _ rfl 1 1 0 rfl rfl rfl w⟩)) ?_
 simp only [zz]
 (try simp only [Bool.not_true, Bool.not_false])
 refine tW 3 rfl ?_
 simp only [zz]
 refine tW 4 rfl ?_
 simp only [zz]
 refine tY 5 rfl ((.inl ⟨by rfl, fun w => exec_sub _ _ _ _ rfl 1 1 0 rfl rfl rfl w⟩)) ?_
 simp only [zz]
 (try simp only [Bool.not_true, Bool.not_false])
 refine tW 6 rfl ?_
 simp only [zz]
 refine tW 7 rfl ?_
 simp only [zz]
 refine tW 8 rfl ?_
 simp only [zz]
 refine tW 9 rfl ?_
 simp only [zz]
 refine tW 11 rfl ?_
 simp only [zz]
 refine tW 12 rfl ?_
 simp only [zz]
 refine wpI_one (i := 10) rfl (by kernel_rfl) ?_
 (try simp only [zz])
 go_wp2_with (first
   | go_skip
   | (((with_reducible refine at_store_ ?_); refine sM 2 hM rfl rfl rfl ?_; clear hM; intro W hM; simp only [zF, zE, prR, pr6, pr7, pr8, pr9, pr10, pr11, pr12, pr13, pr14, pr15, pr16, pr17, pr18, pr19] at hM)))
 refine contI_late (by decide) ?_
 (try simp only [zz])
 refine tW 13 rfl ?_
 simp only [zz]
 refine wpI_one (i := 14) rfl (by kernel_rfl) ?_
 (try simp only [zz])
 go_wp2_with (first
   | go_skip
   | (((with_reducible refine at_store_ ?_); refine sM 2 hM rfl rfl rfl ?_; clear hM; intro W hM; simp only [zF, zE, prR, pr6, pr7, pr8, pr9, pr10, pr11, pr12, pr13, pr14, pr15, pr16, pr17, pr18, pr19] at hM)))
 refine contI_late (by decide) ?_
 (try simp only [zz])
 refine wpI_done (by kernel_rfl) ?_ _
 (try simp only [zz])
 (exact hK _ _ _ _ _ _ _ _ _ _ _ _ _ _ hM)
end
end Go.Proofs.Ytfpifahkpkjfgaa
