/- conn: conversions and stores in drawn regions. -/
import Derived.Test.YtfpifahkpkjfgaaCnP
namespace Go.Proofs.Ytfpifahkpkjfgaa
open Go Go.RowKit
set_option linter.unusedVariables false

theorem exec_cv32 {P : Program} {o : Oper} {a : Act} (S T : TypeId) (x : Operand) (ho : o.op = .convert S T x) (hS : P.underlying S = some (.int .i64)) (hT : P.underlying T = some (.int .u32)) (X : Int) (hx : a.eval x = .int .i64 X) (w : World) : (execOp a.eval o).run P w = .ok (.value (.int .u32 (u32 X))) w := by
  unfold execOp
  simp [ho, hx, convert, Sem.run_bind, run_underlying hS, run_underlying hT, Conv.intToInt, u32, IntKind.wrap_u32]
theorem range_sub {W : World} {g : Nat} {cs : List Value} (h : ∀ j, W.cell? ⟨g, j, none⟩ = cs[j]?) (o : Nat) (vs : List Value) (he : (cs.drop o).take vs.length = vs) : W.rangeAt g o vs := fun j v hv => by
  rw [h (o + j)]
  have hj := (List.getElem?_eq_some_iff.1 hv).1
  rw [← he, List.getElem?_take_of_lt hj, List.getElem?_drop] at hv
  exact hv
theorem cn_last {E : Nat → Prop} {w W : World} {l : List Res} {A : Res} (h : MemX E w W (l ++ [A])) : MemX E w W (A :: l) := h.perm List.perm_append_comm
end Go.Proofs.Ytfpifahkpkjfgaa
