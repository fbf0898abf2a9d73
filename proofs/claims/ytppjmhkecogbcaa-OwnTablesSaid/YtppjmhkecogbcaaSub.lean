/- A struct inside a struct, read. -/
import Derived.Test.YtppjmhkecogbcaaSt
import Derived.Orders
namespace Go.Proofs.Ytppjmhkecogbcaa
open Go.RowKit
set_option linter.unusedVariables false

theorem At.sub {w : World} {g i : Nat} {t : TypeId} {cs sub : List Value} (h : At w g t cs) (hs : (cs.drop i).take sub.length = sub) : w.rangeAt g i sub := by
  intro j u hj
  rw [h.cell]
  rw [← hs, List.getElem?_take] at hj
  split at hj
  · rw [List.getElem?_drop] at hj; exact hj
  · cases hj
theorem At.range {w : World} {g : Nat} {t : TypeId} {cs : List Value} (h : At w g t cs) : w.rangeAt g 0 cs := h.sub (by simp)
/-- a struct that lies in a thing of Mem, from cell i on -/
theorem wpList_loads_mem {E : Nat → Prop} {P : Program} {ops : Array Oper} {rest : List Oper} {op : Oper} {a : Act} {w0 w : World} {Q : Exit → Act → World → Prop} {l : List Res} (hgd : Region.wanted op (yielded ops a.tmps) = true) (T : TypeId) (x : Operand) (ho : op.op = .load T x) (k : Nat) (g i : Nat) (t : TypeId) (cs sub : List Value) (hM : MemX E w0 w l) (hk : l[k]? = some (atR g t cs)) (hx : a.eval x = .pointer (some ⟨g, i, none⟩))
    (hs : (cs.drop i).take sub.length = sub) (d : TypeDesc) (hu : P.underlying T = some d) (hd : d.isRow = true) (hi : (P.info? T).map (·.size) = some sub.length)
    (h : wpList P ops Q rest (a.put op.dst (.agg sub.toArray)) w) : wpList P ops Q (op :: rest) a w :=
  wpList_step fun K hK => by
    rw [if_pos hgd]
    exact wp_load_mid T x ho g i hx sub d ((hM.at_ k hk).sub hs) hu hd hi (hK _ _ h)
/-- two structs compared, in a region that draws its order -/
theorem yields_ne {P : Program} {ops : Array Oper} {o : Oper} {a : Act} (hw : Region.wanted o (yielded ops a.tmps) = true) (T : TypeId) (x y : Operand) (R : TypeId) (ho : o.op = .binOp .neq T x y R) (X Y : Array Value) (hx : a.eval x = .agg X) (hy : a.eval y = .agg Y)
    (hg : P.eqGuardType P.depth T = false) (b : Bool) (heq : ∀ W, (Op.equalIn 10000 T (.agg X) (.agg Y)).run P W = .ok b W) : Yields P ops o (.bool !b) a :=
  .inl ⟨hw, fun w => by
    unfold execOp
    simp only [ho, hx, hy, Sem.run_bind, run_eqGuard_agg (hm := hg), run_neq_struct, heq, Sem.run_pure, Result.andThen_ok]⟩
theorem yields_eq {P : Program} {ops : Array Oper} {o : Oper} {a : Act} (hw : Region.wanted o (yielded ops a.tmps) = true) (T : TypeId) (x y : Operand) (R : TypeId) (ho : o.op = .binOp .eql T x y R) (X Y : Array Value) (hx : a.eval x = .agg X) (hy : a.eval y = .agg Y)
    (hg : P.eqGuardType P.depth T = false) (b : Bool) (heq : ∀ W, (Op.equalIn 10000 T (.agg X) (.agg Y)).run P W = .ok b W) : Yields P ops o (.bool b) a :=
  .inl ⟨hw, fun w => by
    unfold execOp
    simp only [ho, hx, hy, Sem.run_bind, run_eqGuard_agg (hm := hg), run_eql_struct, heq, Sem.run_pure, Result.andThen_ok]⟩
end Go.Proofs.Ytppjmhkecogbcaa
