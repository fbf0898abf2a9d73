/- PollTold, the switch of a round: what it keeps. Written by my genpta.py. -/
import Derived.Test.YtgdfjkdcdfmifaaPolH
import Derived.Test.YtgdfjkdcdfmifaaOrdC
import Derived.Test.YtgdfjkdcdfmifaaStepM
import Derived.Test.YtgdfjkdcdfmifaaStep
import Derived.Test.YtgdfjkdcdfmifaaTy
import Derived.Test.YtgdfjkdcdfmifaaPiece
import Derived.Deep.CutBlock
namespace Go.Proofs.Ytgdfjkdcdfmifaa
open Go.RowKit Go.Lib
set_option linter.unusedVariables false
set_option linter.unusedSimpArgs false
set_option linter.unusedSectionVars false


noncomputable def ptSwitch : Code := ((Try.f12.body.bind (blkIn 2)).getD .skip)
def ptM (g gm gx : Nat) (cs : List Value) (v : Value) (ws : List KW) (m : List (Int × Nat)) (bs : Int → Nat) (zs : List KW) : List Res :=
  atR gx 40 cs :: mapR Try.prog 3 fInt fSP gm m :: (pollL g v ws ++ zs.map (sR bs))
/-- what a round's way leaves -/
def ptRel (w : World) (g gm gx : Nat) (cs : List Value) (W : World) : Prop :=
  ∃ (v : Value) (ws : List KW) (m : List (Int × Nat)) (bs : Int → Nat) (zs : List KW), Mem w W (ptM g gm gx cs v ws m bs zs) ∧ PInv ws ∧ Acc m bs ws zs
theorem to_front {E : Nat → Prop} {w W : World} (A P R : List Res) (h : MemX E w W (A ++ (P ++ R))) : MemX E w W (P ++ (A ++ R)) := by
  refine h.perm ?_
  rw [← List.append_assoc, ← List.append_assoc]
  exact (List.perm_append_comm).append_right R
theorem yields_or {P : Program} {ops : Array Oper} {o : Oper} {a : Act} (hw : Region.wanted o (yielded ops a.tmps) = true) (T : TypeId) (x y : Operand) (R : TypeId) (ho : o.op = .binOp .or T x y R) (X Y : Int) (hx : a.eval x = .int .i64 X) (hy : a.eval y = .int .i64 Y) : Yields P ops o (.int .i64 (bOr X Y)) a :=
  .inl ⟨hw, fun W => exec_or T x y R ho X Y hx hy W⟩
theorem yields_andNot {P : Program} {ops : Array Oper} {o : Oper} {a : Act} (hw : Region.wanted o (yielded ops a.tmps) = true) (T : TypeId) (x y : Operand) (R : TypeId) (ho : o.op = .binOp .andNot T x y R) (X Y : Int) (hx : a.eval x = .int .i64 X) (hy : a.eval y = .int .i64 Y) : Yields P ops o (.int .i64 (bAndNot X Y)) a :=
  .inl ⟨hw, fun W => exec_andNot T x y R ho X Y hx hy W⟩
theorem last_front {E : Nat → Prop} {w W : World} {l : List Res} {A : Res} (h : MemX E w W (l ++ [A])) : MemX E w W (A :: l) := h.perm (swap_perm l [A])
end Go.Proofs.Ytgdfjkdcdfmifaa
