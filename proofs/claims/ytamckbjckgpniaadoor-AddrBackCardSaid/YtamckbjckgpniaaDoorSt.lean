/- The structs of the program as structures; what '==' says of two of them. -/
import Derived.Test.YtamckbjckgpniaaDoorTy
import Derived.Laws.StructEq
namespace Go.Proofs.YtamckbjckgpniaaDoor
open Go.RowKit
set_option linter.unusedVariables false

theorem ite_okb {c : Prop} [Decidable c] (x : Bool) (w : World) : (if c then Result.ok x w else Result.ok false w) = Result.ok (decide c && x) w := by
  split <;> simp [*]
structure KPrefix where
  a : Int
  n : Int
def cPrefix (p : KPrefix) : List Value := [.int .u32 p.a, .int .i64 p.n]
def oPrefix : KPrefix := ⟨0, 0⟩
theorem eg_Prefix : Tryd.prog.eqGuardType Tryd.prog.depth 24 = false := by kernel_rfl
set_option maxRecDepth 100000 in
set_option maxHeartbeats 2000000 in
theorem eqc_Prefix (a0 : Int) (a1 : Int) (b0 : Int) (b1 : Int) (w : World) : (Op.equalIn 10000 24 (.agg #[.int .u32 a0, .int .i64 a1]) (.agg #[.int .u32 b0, .int .i64 b1])).run Tryd.prog w = .ok (decide (a0 = b0) && (decide (a1 = b1))) w := by
  have hS : Tryd.prog.underlying 24 = some (.struct (Tryd.prog.fieldsOf 24)) := by kernel_rfl
  have hp : Tryd.prog.stoodInHeld 24 = false := by kernel_rfl
  rw [show (10000 : Nat) = 9999 + 1 from rfl, run_equalIn_agg w 9999 24 _ _ hS hp]
  simp only [Program.fieldsOf, Tryd.underlying24]
  go_simp
  simp only [ite_okb, Bool.and_true]
theorem eqT_Prefix (p : KPrefix) (w : World) : (Op.equalIn 10000 24 (.agg (cPrefix p).toArray) (.agg (cPrefix p).toArray)).run Tryd.prog w = .ok true w := by
  unfold cPrefix
  rw [eqc_Prefix]
  simp
theorem eqF_Prefix (p q : KPrefix) (h : p ≠ q) (w : World) : (Op.equalIn 10000 24 (.agg (cPrefix p).toArray) (.agg (cPrefix q).toArray)).run Tryd.prog w = .ok false w := by
  unfold cPrefix
  rw [eqc_Prefix]
  congr 1
  refine Bool.eq_false_iff.2 fun e => h ?_
  simp only [Bool.and_eq_true, decide_eq_true_eq] at e
  cases p; cases q
  obtain ⟨e0, e1⟩ := e
  simp only at e0 e1
  subst e0 e1
  rfl
section
variable {P : Program} {ops : Array Oper} {rest : List Oper} {op : Oper} {a : Act} {w : World} {Q : Exit → Act → World → Prop}
/-- two structs compared -/
theorem wpList_eq_mem (hgd : Region.wanted op (yielded ops a.tmps) = true) (T : TypeId) (x y : Operand) (R : TypeId) (ho : op.op = .binOp .eql T x y R) (X Y : Array Value) (hx : a.eval x = .agg X) (hy : a.eval y = .agg Y)
    (hg : P.eqGuardType P.depth T = false) (b : Bool) (heq : ∀ W, (Op.equalIn 10000 T (.agg X) (.agg Y)).run P W = .ok b W) (h : wpList P ops Q rest (a.put op.dst (.bool b)) w) : wpList P ops Q (op :: rest) a w :=
  wpList_step fun K hK => by
    rw [if_pos hgd]
    unfold Oper.wp execOp
    simp only [ho, hx, hy, Sem.run_bind, run_eqGuard_agg (hm := hg), run_eql_struct, heq, Sem.run_pure, Result.andThen_ok]
    exact hK _ _ h
theorem wpList_ne_mem (hgd : Region.wanted op (yielded ops a.tmps) = true) (T : TypeId) (x y : Operand) (R : TypeId) (ho : op.op = .binOp .neq T x y R) (X Y : Array Value) (hx : a.eval x = .agg X) (hy : a.eval y = .agg Y)
    (hg : P.eqGuardType P.depth T = false) (b : Bool) (heq : ∀ W, (Op.equalIn 10000 T (.agg X) (.agg Y)).run P W = .ok b W) (h : wpList P ops Q rest (a.put op.dst (.bool !b)) w) : wpList P ops Q (op :: rest) a w :=
  wpList_step fun K hK => by
    rw [if_pos hgd]
    unfold Oper.wp execOp
    simp only [ho, hx, hy, Sem.run_bind, run_eqGuard_agg (hm := hg), run_neq_struct, heq, Sem.run_pure, Result.andThen_ok]
    exact hK _ _ h
theorem run_loadVar_one {d : TypeDesc} (g i : Nat) (T : TypeId) (v : Value) (h : w.cell? ⟨g, i, none⟩ = some v) (hu : P.underlying T = some d) (hd : d.isRow = false) : (loadVar T ⟨g, i, none⟩).run P w = .ok v w := by
  have hagg : (isAgg T).run P w = .ok false w := by
    unfold isAgg
    rw [Sem.run_bind, run_underlying hu w]
    cases d <;> simp_all
  simp [loadVar, Sem.run_bind, hagg, h]
/-- one cell of what is known, read -/
theorem wpList_load1_mem {E : Nat → Prop} {w0 : World} {l : List Res} (hgd : Region.wanted op (yielded ops a.tmps) = true) (T : TypeId) (x : Operand) (ho : op.op = .load T x) (d : TypeDesc) (hu : P.underlying T = some d) (hd : d.isRow = false) (k : Nat) (g : Nat) (t : TypeId) (cs : List Value) (i : Nat) (v : Value) (hM : MemX E w0 w l) (hk : l[k]? = some (atR g t cs)) (hx : a.eval x = .pointer (some ⟨g, i, none⟩))
    (hv : cs[i]? = some v) (h : wpList P ops Q rest (a.put op.dst v) w) : wpList P ops Q (op :: rest) a w :=
  wpList_step fun K hK => by
    rw [if_pos hgd]
    unfold Oper.wp execOp
    simp only [ho, hx, Instr.loadAt, Instr.sureAddr, Sem.run_bind, Sem.run_pure, Result.andThen_ok, run_loadVar_one g i T v ((hM.cells k hk i).trans hv) hu hd]
    exact hK _ _ h
/-- one cell of what is known, read, whatever its type -/
theorem wpList_loadf_mem {E : Nat → Prop} {w0 : World} {l : List Res} (hgd : Region.wanted op (yielded ops a.tmps) = true) (T : TypeId) (x : Operand) (ho : op.op = .load T x) (hr : (P.underlying T).map (·.isRow) = some false) (k : Nat) (g : Nat) (t : TypeId) (cs : List Value) (i : Nat) (v : Value) (hM : MemX E w0 w l) (hk : l[k]? = some (atR g t cs)) (hx : a.eval x = .pointer (some ⟨g, i, none⟩))
    (hv : cs[i]? = some v) (h : wpList P ops Q rest (a.put op.dst v) w) : wpList P ops Q (op :: rest) a w := by
  cases hu : P.underlying T with
  | none => rw [hu] at hr; cases hr
  | some d =>
    rw [hu] at hr
    exact wpList_load1_mem hgd T x ho d hu (Option.some.inj hr) k g t cs i v hM hk hx hv h
theorem run_storeVar_off (w : World) (g o : Nat) (T : TypeId) (v : Value) (cs : List Value) (hv : v.cells = cs.toArray) (ht : w.there g o cs.length) (hi : (P.info? T).map (·.size) = some cs.length) (h1 : cs.all (·.oneCell') = true) :
    (storeVar T ⟨g, o, none⟩ v).run P w = .ok () (w.setCells g o cs) := by
  have := run_storeCells_cells (P := P) g o cs 0 w (fun j hj => by simpa using (ht j hj).1) (fun j hj => by simpa using (ht j hj).2) (fun v hv => List.all_eq_true.1 h1 v hv)
  cases hq : P.info? T with
  | none => simp [hq] at hi
  | some i =>
    have hs : cs.length = i.size := by simp [hq] at hi; omega
    simp only [Nat.add_zero] at this
    simp [storeVar, sizeOf, typeInfo, hq, hv, hs, this]
/-- one cell of what is known, written -/
theorem wpList_store1_mem {E : Nat → Prop} {w0 : World} {l : List Res} (hgd : op.guard = none) (T : TypeId) (x y : Operand) (ho : op.op = .store T x y) (k : Nat) (g : Nat) (t : TypeId) (cs : List Value) (i : Nat) (v : Value) (hM : MemX E w0 w l) (hk : l[k]? = some (atR g t cs)) (hx : a.eval x = .pointer (some ⟨g, i, none⟩)) (hy : a.eval y = v)
    (hv : v.cells = [v].toArray) (h1 : v.oneCell' = true) (hi : (P.info? T).map (·.size) = some 1) (hlt' : (cs[i]?).isSome = true)
    (h : ∀ W, MemX E w0 W (l.set k (atR g t (cs.set i v))) → wpList P ops Q rest (a.put op.dst undef) W) : wpList P ops Q (op :: rest) a w := by
  have hlt : i < cs.length := by
    by_cases h0 : i < cs.length
    · exact h0
    · rw [List.getElem?_eq_none (by omega)] at hlt'; cases hlt'
  have hA := hM.at_ k hk
  have ht : w.there g i [v].length := fun j hj => by
    have : j = 0 := by simpa using hj
    subst this
    exact ⟨by rw [Nat.add_zero, hA.cell, List.getElem?_eq_getElem hlt]; rfl, hA.free _⟩
  refine wpList_plain hgd fun K hK => ?_
  unfold Oper.wp execOp
  simp only [ho, hx, hy, Instr.storeAt, Instr.sureAddr, Sem.run_bind, Sem.run_pure, Result.andThen_ok, run_storeVar_off w g i T v [v] hv ht hi (by simp [h1])]
  refine hK _ _ (h _ ?_)
  have e : w.setCells g i [v] = w.setCell ⟨g, i, none⟩ v := rfl
  rw [e]
  exact hM.atPut k hk (only_set (only_refl w _) (.inl rfl) v) (hA.set_ i v)
end
end Go.Proofs.YtamckbjckgpniaaDoor
