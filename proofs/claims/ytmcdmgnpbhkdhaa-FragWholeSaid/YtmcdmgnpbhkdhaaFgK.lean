/- frag.name as a map's key. -/
import Derived.Test.YtmcdmgnpbhkdhaaMap
import Derived.Test.YtmcdmgnpbhkdhaaSt
import Derived.DeepKeys4
namespace Go.Proofs.Ytmcdmgnpbhkdhaa
open Go.RowKit
set_option linter.unusedVariables false
structure KNm where
  s : Int
  d : Int
  pr : Int
  id : Int
def cNm (p : KNm) : List Value := [.int .u32 p.s, .int .u32 p.d, .int .i64 p.pr, .int .i64 p.id]
def oNm : KNm := ⟨0, 0, 0, 0⟩
def zName : List Value := [.int .u32 0, .int .u32 0, .int .i64 0, .int .i64 0]
theorem sz_Name : (Try.prog.info? 113).map (·.size) = some 4 := by kernel_rfl
theorem zv_Name : ∀ W : World, (zeroValue 113).run Try.prog W = .ok (.agg zName.toArray) W := fun _ => by kernel_rfl
theorem knm_ext {a b : KNm} (h1 : a.s = b.s) (h2 : a.d = b.d) (h3 : a.pr = b.pr) (h4 : a.id = b.id) : a = b := by cases a; cases b; simp only at h1 h2 h3 h4; subst h1 h2 h3 h4; rfl
instance decKNm : DecidableEq KNm := fun a b => decidable_of_iff (a.s = b.s ∧ a.d = b.d ∧ a.pr = b.pr ∧ a.id = b.id) ⟨fun h => knm_ext h.1 h.2.1 h.2.2.1 h.2.2.2, fun h => by rw [h]; exact ⟨rfl, rfl, rfl, rfl⟩⟩
structure NmOk (e : KNm) : Prop where
  s1 : 0 ≤ e.s
  s2 : e.s ≤ 4294967295
  d1 : 0 ≤ e.d
  d2 : e.d ≤ 4294967295
  p1 : -9223372036854775808 ≤ e.pr
  p2 : e.pr ≤ 9223372036854775807
  i1 : -9223372036854775808 ≤ e.id
  i2 : e.id ≤ 9223372036854775807
def fNm (e : KNm) : Value := .agg (cNm e).toArray
theorem fNm_inj {a b : KNm} (h : fNm a = fNm b) : a = b := by
  unfold fNm cNm at h
  injection h with h
  have h := congrArg Array.toList h
  simp only [List.cons.injEq, Value.int.injEq, true_and, and_true] at h
  exact knm_ext h.1 h.2.1 h.2.2.1 h.2.2.2
theorem laidOutN_ : laidOutB Try.prog = true := by kernel_rfl
theorem keyed_Nm : Go.Maps.Keyed Try.prog 113 :=
  Go.Maps.Keyed.of_law (deep_law_laid laidOutN_ (m := 2) (by omega) (of_decide_eq_true (by kernel_rfl)) (by kernel_rfl) (by kernel_rfl))
theorem keyOf_four {P : Program} {k : TypeId} {f1 f2 f3 f4 : Field} {q1 q2 q3 q4 : IntKind} {x y z v : Int} (hu : P.underlying k = some (.struct #[f1, f2, f3, f4])) (hk : P.keyType k = true) (hc : P.cellsOf k = 4) (n1 : (f1.name != "_") = true) (n2 : (f2.name != "_") = true) (n3 : (f3.name != "_") = true) (n4 : (f4.name != "_") = true) (o1 : f1.offset = 0) (o2 : f2.offset = 1) (o3 : f3.offset = 2) (o4 : f4.offset = 3)
    (u1 : P.underlying f1.type = some (.int q1)) (u2 : P.underlying f2.type = some (.int q2)) (u3 : P.underlying f3.type = some (.int q3)) (u4 : P.underlying f4.type = some (.int q4)) (c1 : P.cellsOf f1.type = 1) (c2 : P.cellsOf f2.type = 1) (c3 : P.cellsOf f3.type = 1) (c4 : P.cellsOf f4.type = 1) (hs : 0 < P.types.size) (w1 : (Lit.int q1 x).wf = true) (w2 : (Lit.int q2 y).wf = true) (w3 : (Lit.int q3 z).wf = true) (w4 : (Lit.int q4 v).wf = true) :
    keyOf P k (.agg #[.int q1 x, .int q2 y, .int q3 z, .int q4 v]) = some (.string (keyBytes [.int q1 x, .int q2 y, .int q3 z, .int q4 v])) := by
  obtain ⟨d, hd⟩ : ∃ d, P.types.size = d + 1 := ⟨P.types.size - 1, by omega⟩
  have n1' : f1.name ≠ "_" := by simpa using n1
  have n2' : f2.name ≠ "_" := by simpa using n2
  have n3' : f3.name ≠ "_" := by simpa using n3
  have n4' : f4.name ≠ "_" := by simpa using n4
  unfold keyOf
  simp [hu, hk, Value.formed, hc, hd, Program.keyLits, Value.cells, o1, o2, o3, o4, u1, u2, u3, u4, c1, c2, c3, c4, w1, w2, w3, w4, n1', n2', n3', n4']
theorem hk_Nm : Try.prog.keyType 113 = true := by kernel_rfl
theorem hc_Nm : Try.prog.cellsOf 113 = 4 := by kernel_rfl
theorem hcN_u32 : Try.prog.cellsOf 36 = 1 := by kernel_rfl
theorem hcN_int : Try.prog.cellsOf 3 = 1 := by kernel_rfl
theorem hsN_types : 0 < Try.prog.types.size := of_decide_eq_true (by kernel_rfl)
theorem keyOk_Nm {e : KNm} (h : NmOk e) : KeyOk Try.prog 113 fNm e := by
  have m1 : IntKind.u32.min = 0 := rfl
  have m2 : IntKind.u32.max = 4294967295 := rfl
  have m3 : IntKind.i64.min = -9223372036854775808 := rfl
  have m4 : IntKind.i64.max = 9223372036854775807 := rfl
  have h1 := h.s1
  have h2 := h.s2
  have h3 := h.d1
  have h4 := h.d2
  have h5 := h.p1
  have h6 := h.p2
  have h7 := h.i1
  have h8 := h.i2
  have w1 : (Lit.int .u32 e.s).wf = true := by simp only [Lit.wf, m1, m2, Bool.and_eq_true, decide_eq_true_eq]; omega
  have w2 : (Lit.int .u32 e.d).wf = true := by simp only [Lit.wf, m1, m2, Bool.and_eq_true, decide_eq_true_eq]; omega
  have w3 : (Lit.int .i64 e.pr).wf = true := by simp only [Lit.wf, m3, m4, Bool.and_eq_true, decide_eq_true_eq]; omega
  have w4 : (Lit.int .i64 e.id).wf = true := by simp only [Lit.wf, m3, m4, Bool.and_eq_true, decide_eq_true_eq]; omega
  exact ⟨_, keyOf_four Try.underlying113 hk_Nm hc_Nm rfl rfl rfl rfl rfl rfl rfl rfl Try.underlying36 Try.underlying36 Try.underlying3 Try.underlying3 hcN_u32 hcN_u32 hcN_int hcN_int hsN_types w1 w2 w3 w4⟩
end Go.Proofs.Ytmcdmgnpbhkdhaa
