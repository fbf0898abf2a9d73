/- api.End as a map's key. -/
import Derived.Test.YtmcdmgnpbhkdhaaMap
import Derived.Test.YtmcdmgnpbhkdhaaSt
import Derived.DeepKeys4
namespace Go.Proofs.Ytmcdmgnpbhkdhaa
open Go.RowKit
set_option linter.unusedVariables false

theorem kend_ext {a b : KEnd} (h1 : a.a = b.a) (h2 : a.p = b.p) : a = b := by cases a; cases b; simp only at h1 h2; subst h1 h2; rfl
instance decKEnd : DecidableEq KEnd := fun a b => decidable_of_iff (a.a = b.a ∧ a.p = b.p) ⟨fun h => kend_ext h.1 h.2, fun h => by rw [h]; exact ⟨rfl, rfl⟩⟩
def EndOk (e : KEnd) : Prop := 0 ≤ e.a ∧ e.a ≤ 4294967295 ∧ -9223372036854775808 ≤ e.p ∧ e.p ≤ 9223372036854775807
def fEnd (e : KEnd) : Value := .agg (cEnd e).toArray
theorem fEnd_inj {a b : KEnd} (h : fEnd a = fEnd b) : a = b := by
  unfold fEnd cEnd at h
  injection h with h
  have h := congrArg Array.toList h
  simp only [List.cons.injEq, Value.int.injEq, true_and, and_true] at h
  cases a; cases b
  simp only at h
  obtain ⟨h1, h2⟩ := h
  subst h1 h2
  rfl
theorem laidOut_ : laidOutB Try.prog = true := by kernel_rfl
theorem keyed_End : Go.Maps.Keyed Try.prog 42 :=
  Go.Maps.Keyed.of_law (deep_law_laid laidOut_ (m := 2) (by omega) (of_decide_eq_true (by kernel_rfl)) (by kernel_rfl) (by kernel_rfl))
theorem keyOf_pair {P : Program} {k : TypeId} {f1 f2 : Field} {q1 q2 : IntKind} {x y : Int} (hu : P.underlying k = some (.struct #[f1, f2])) (hk : P.keyType k = true) (hc : P.cellsOf k = 2) (n1 : (f1.name != "_") = true) (n2 : (f2.name != "_") = true) (o1 : f1.offset = 0) (o2 : f2.offset = 1)
    (u1 : P.underlying f1.type = some (.int q1)) (u2 : P.underlying f2.type = some (.int q2)) (c1 : P.cellsOf f1.type = 1) (c2 : P.cellsOf f2.type = 1) (hs : 0 < P.types.size) (w1 : (Lit.int q1 x).wf = true) (w2 : (Lit.int q2 y).wf = true) :
    keyOf P k (.agg #[.int q1 x, .int q2 y]) = some (.string (keyBytes [.int q1 x, .int q2 y])) := by
  obtain ⟨d, hd⟩ : ∃ d, P.types.size = d + 1 := ⟨P.types.size - 1, by omega⟩
  have n1' : f1.name ≠ "_" := by simpa using n1
  have n2' : f2.name ≠ "_" := by simpa using n2
  unfold keyOf
  simp [hu, hk, Value.formed, hc, hd, Program.keyLits, Value.cells, o1, o2, u1, u2, c1, c2, w1, w2, n1', n2']
theorem hk_End : Try.prog.keyType 42 = true := by kernel_rfl
theorem hc_End : Try.prog.cellsOf 42 = 2 := by kernel_rfl
theorem hc_u32 : Try.prog.cellsOf 36 = 1 := by kernel_rfl
theorem hc_int : Try.prog.cellsOf 3 = 1 := by kernel_rfl
theorem hs_types : 0 < Try.prog.types.size := of_decide_eq_true (by kernel_rfl)
theorem keyOk_End {e : KEnd} (h : EndOk e) : KeyOk Try.prog 42 fEnd e := by
  obtain ⟨h1, h2, h3, h4⟩ := h
  have m1 : IntKind.u32.min = 0 := rfl
  have m2 : IntKind.u32.max = 4294967295 := rfl
  have m3 : IntKind.i64.min = -9223372036854775808 := rfl
  have m4 : IntKind.i64.max = 9223372036854775807 := rfl
  have w1 : (Lit.int .u32 e.a).wf = true := by simp only [Lit.wf, m1, m2, Bool.and_eq_true, decide_eq_true_eq]; omega
  have w2 : (Lit.int .i64 e.p).wf = true := by simp only [Lit.wf, m3, m4, Bool.and_eq_true, decide_eq_true_eq]; omega
  exact ⟨_, keyOf_pair Try.underlying42 hk_End hc_End rfl rfl rfl rfl Try.underlying36 Try.underlying3 hc_u32 hc_int hs_types w1 w2⟩
end Go.Proofs.Ytmcdmgnpbhkdhaa
