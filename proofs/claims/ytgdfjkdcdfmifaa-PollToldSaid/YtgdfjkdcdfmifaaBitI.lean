/- '&', '|', '&^' of two ints, by name. -/
import Derived.Test.YtgdfjkdcdfmifaaSub
namespace Go.Proofs.Ytgdfjkdcdfmifaa
open Go.RowKit
set_option linter.unusedVariables false

def bAnd (x y : Int) : Int := IntKind.i64.wrap ((BitVec.ofInt IntKind.i64.bits x &&& BitVec.ofInt IntKind.i64.bits y).toNat)
def bOr (x y : Int) : Int := IntKind.i64.wrap ((BitVec.ofInt IntKind.i64.bits x ||| BitVec.ofInt IntKind.i64.bits y).toNat)
def bAndNot (x y : Int) : Int := IntKind.i64.wrap ((BitVec.ofInt IntKind.i64.bits x &&& ~~~BitVec.ofInt IntKind.i64.bits y).toNat)
section
variable {P : Program} {ops : Array Oper} {rest : List Oper} {o : Oper} {a : Act} {w : World} {Q : Exit → Act → World → Prop} {d : Option Tmp} {ty T R : TypeId} {ps : String} {af : Array Edge} {g : Option (Nat × Bool)} {x y : Operand}
theorem exec_and (T : TypeId) (x y : Operand) (R : TypeId) (ho : o.op = .binOp .and T x y R) (X Y : Int) (hx : a.eval x = .int .i64 X) (hy : a.eval y = .int .i64 Y) (w : World) : (execOp a.eval o).run P w = .ok (.value (.int .i64 (bAnd X Y))) w := by
  unfold execOp
  simp [ho, hx, hy, eqGuard, binOp, Op.intBits, bAnd]
theorem exec_or (T : TypeId) (x y : Operand) (R : TypeId) (ho : o.op = .binOp .or T x y R) (X Y : Int) (hx : a.eval x = .int .i64 X) (hy : a.eval y = .int .i64 Y) (w : World) : (execOp a.eval o).run P w = .ok (.value (.int .i64 (bOr X Y))) w := by
  unfold execOp
  simp [ho, hx, hy, eqGuard, binOp, Op.intBits, bOr]
theorem exec_andNot (T : TypeId) (x y : Operand) (R : TypeId) (ho : o.op = .binOp .andNot T x y R) (X Y : Int) (hx : a.eval x = .int .i64 X) (hy : a.eval y = .int .i64 Y) (w : World) : (execOp a.eval o).run P w = .ok (.value (.int .i64 (bAndNot X Y))) w := by
  unfold execOp
  simp [ho, hx, hy, eqGuard, binOp, Op.intBits, bAndNot]
theorem wpList_valI {v : Value} (hw : Region.wanted o (yielded ops a.tmps) = true) (hy : (execOp a.eval o).run P w = .ok (.value v) w) (h : wpList P ops Q rest (a.put o.dst v) w) : wpList P ops Q (o :: rest) a w :=
  wpList_step fun K hK => by
    rw [if_pos hw]
    unfold Oper.wp
    rw [hy]
    exact hK _ _ h
theorem at_and_ (h : wpList P ops Q ({ dst := d, op := .binOp .and T x y R, type := ty, pos := ps, after := af, guard := g } :: rest) a w) : wpList P ops Q ({ dst := d, op := .binOp .and T x y R, type := ty, pos := ps, after := af, guard := g } :: rest) a w := h
theorem at_or_ (h : wpList P ops Q ({ dst := d, op := .binOp .or T x y R, type := ty, pos := ps, after := af, guard := g } :: rest) a w) : wpList P ops Q ({ dst := d, op := .binOp .or T x y R, type := ty, pos := ps, after := af, guard := g } :: rest) a w := h
theorem at_andNot_ (h : wpList P ops Q ({ dst := d, op := .binOp .andNot T x y R, type := ty, pos := ps, after := af, guard := g } :: rest) a w) : wpList P ops Q ({ dst := d, op := .binOp .andNot T x y R, type := ty, pos := ps, after := af, guard := g } :: rest) a w := h
end
end Go.Proofs.Ytgdfjkdcdfmifaa
