/- A region that does not draw, op by op: what an operation yields, looked at alone. -/
import Derived.Test.YtalfdbhpaonfjaaSub
namespace Go.Proofs.Ytalfdbhpaonfjaa
open Go.RowKit
set_option linter.unusedVariables false

theorem wpList_val {P : Program} {ops : Array Oper} {rest : List Oper} {o : Oper} {a : Act} {w : World} {Q : Exit → Act → World → Prop} {v : Value} (hw : Region.wanted o (yielded ops a.tmps) = true)
    (hy : (execOp a.eval o).run P w = .ok (.value v) w) (h : wpList P ops Q rest (a.put o.dst v) w) : wpList P ops Q (o :: rest) a w :=
  wpList_step fun K hK => by
    rw [if_pos hw]
    unfold Oper.wp
    rw [hy]
    exact hK _ _ h
end Go.Proofs.Ytalfdbhpaonfjaa
