/- The structs of the program as structures; what '==' says of two of them. -/
import Derived.Test.YtfpifahkpkjfgaaTy
import Derived.Laws.StructEq
namespace Go.Proofs.Ytfpifahkpkjfgaa
open Go.RowKit
set_option linter.unusedVariables false

theorem ite_okb {c : Prop} [Decidable c] (x : Bool) (w : World) : (if c then Result.ok x w else Result.ok false w) = Result.ok (decide c && x) w := by
  split <;> simp [*]
structure KGram where
  fa : Int
  fp : Int
  ta : Int
  tp : Int
  b : ByteArray
def cGram (p : KGram) : List Value := [.int .u32 p.fa, .int .i64 p.fp, .int .u32 p.ta, .int .i64 p.tp, .string p.b]
def oGram : KGram := ⟨0, 0, 0, 0, ⟨#[]⟩⟩
theorem eg_Gram : Try.prog.eqGuardType Try.prog.depth 66 = false := by kernel_rfl
set_option maxRecDepth 100000 in
set_option maxHeartbeats 2000000 in
theorem eqc_Gram (a0 : Int) (a1 : Int) (a2 : Int) (a3 : Int) (a4 : ByteArray) (b0 : Int) (b1 : Int) (b2 : Int) (b3 : Int) (b4 : ByteArray) (w : World) : (Op.equalIn 10000 66 (.agg #[.int .u32 a0, .int .i64 a1, .int .u32 a2, .int .i64 a3, .string a4]) (.agg #[.int .u32 b0, .int .i64 b1, .int .u32 b2, .int .i64 b3, .string b4])).run Try.prog w = .ok (decide (a0 = b0) && (decide (a1 = b1) && (decide (a2 = b2) && (decide (a3 = b3) && (decide (a4.toList = b4.toList)))))) w := by
  have hS : Try.prog.underlying 66 = some (.struct (Try.prog.fieldsOf 66)) := by kernel_rfl
  have hp : Try.prog.stoodInHeld 66 = false := by kernel_rfl
  rw [show (10000 : Nat) = 9999 + 1 from rfl, run_equalIn_agg w 9999 66 _ _ hS hp]
  simp only [Program.fieldsOf, Try.underlying66]
  go_simp
  simp only [ite_okb, Bool.and_true]
theorem eqT_Gram (p : KGram) (w : World) : (Op.equalIn 10000 66 (.agg (cGram p).toArray) (.agg (cGram p).toArray)).run Try.prog w = .ok true w := by
  unfold cGram
  rw [eqc_Gram]
  simp
theorem eqF_Gram (p q : KGram) (h : p ≠ q) (w : World) : (Op.equalIn 10000 66 (.agg (cGram p).toArray) (.agg (cGram q).toArray)).run Try.prog w = .ok false w := by
  unfold cGram
  rw [eqc_Gram]
  congr 1
  refine Bool.eq_false_iff.2 fun e => h ?_
  simp only [Bool.and_eq_true, decide_eq_true_eq, ByteArray.toList_eq] at e
  cases p; cases q
  obtain ⟨e0, e1, e2, e3, e4⟩ := e
  simp only at e0 e1 e2 e3 e4
  have e4 := str_ext e4
  subst e0 e1 e2 e3 e4
  rfl
structure KSeg where
  fa : Int
  fp : Int
  ta : Int
  tp : Int
  seq : Int
  ack : Int
  syn : Bool
  has : Bool
  fin : Bool
  rst : Bool
  win : Int
  mss : Int
  b : ByteArray
def cSeg (p : KSeg) : List Value := [.int .u32 p.fa, .int .i64 p.fp, .int .u32 p.ta, .int .i64 p.tp, .int .u32 p.seq, .int .u32 p.ack, .bool p.syn, .bool p.has, .bool p.fin, .bool p.rst, .int .i64 p.win, .int .i64 p.mss, .string p.b]
def oSeg : KSeg := ⟨0, 0, 0, 0, 0, 0, false, false, false, false, 0, 0, ⟨#[]⟩⟩
theorem eg_Seg : Try.prog.eqGuardType Try.prog.depth 33 = false := by kernel_rfl
set_option maxRecDepth 100000 in
set_option maxHeartbeats 2000000 in
theorem eqc_Seg (a0 : Int) (a1 : Int) (a2 : Int) (a3 : Int) (a4 : Int) (a5 : Int) (a6 : Bool) (a7 : Bool) (a8 : Bool) (a9 : Bool) (a10 : Int) (a11 : Int) (a12 : ByteArray) (b0 : Int) (b1 : Int) (b2 : Int) (b3 : Int) (b4 : Int) (b5 : Int) (b6 : Bool) (b7 : Bool) (b8 : Bool) (b9 : Bool) (b10 : Int) (b11 : Int) (b12 : ByteArray) (w : World) : (Op.equalIn 10000 33 (.agg #[.int .u32 a0, .int .i64 a1, .int .u32 a2, .int .i64 a3, .int .u32 a4, .int .u32 a5, .bool a6, .bool a7, .bool a8, .bool a9, .int .i64 a10, .int .i64 a11, .string a12]) (.agg #[.int .u32 b0, .int .i64 b1, .int .u32 b2, .int .i64 b3, .int .u32 b4, .int .u32 b5, .bool b6, .bool b7, .bool b8, .bool b9, .int .i64 b10, .int .i64 b11, .string b12])).run Try.prog w = .ok (decide (a0 = b0) && (decide (a1 = b1) && (decide (a2 = b2) && (decide (a3 = b3) && (decide (a4 = b4) && (decide (a5 = b5) && (decide (a6 = b6) && (decide (a7 = b7) && (decide (a8 = b8) && (decide (a9 = b9) && (decide (a10 = b10) && (decide (a11 = b11) && (decide (a12.toList = b12.toList)))))))))))))) w := by
  have hS : Try.prog.underlying 33 = some (.struct (Try.prog.fieldsOf 33)) := by kernel_rfl
  have hp : Try.prog.stoodInHeld 33 = false := by kernel_rfl
  rw [show (10000 : Nat) = 9999 + 1 from rfl, run_equalIn_agg w 9999 33 _ _ hS hp]
  simp only [Program.fieldsOf, Try.underlying33]
  go_simp
  simp only [ite_okb, Bool.and_true]
theorem eqT_Seg (p : KSeg) (w : World) : (Op.equalIn 10000 33 (.agg (cSeg p).toArray) (.agg (cSeg p).toArray)).run Try.prog w = .ok true w := by
  unfold cSeg
  rw [eqc_Seg]
  simp
theorem eqF_Seg (p q : KSeg) (h : p ≠ q) (w : World) : (Op.equalIn 10000 33 (.agg (cSeg p).toArray) (.agg (cSeg q).toArray)).run Try.prog w = .ok false w := by
  unfold cSeg
  rw [eqc_Seg]
  congr 1
  refine Bool.eq_false_iff.2 fun e => h ?_
  simp only [Bool.and_eq_true, decide_eq_true_eq, ByteArray.toList_eq] at e
  cases p; cases q
  obtain ⟨e0, e1, e2, e3, e4, e5, e6, e7, e8, e9, e10, e11, e12⟩ := e
  simp only at e0 e1 e2 e3 e4 e5 e6 e7 e8 e9 e10 e11 e12
  have e12 := str_ext e12
  subst e0 e1 e2 e3 e4 e5 e6 e7 e8 e9 e10 e11 e12
  rfl
structure KEnd where
  a : Int
  p : Int
def cEnd (p : KEnd) : List Value := [.int .u32 p.a, .int .i64 p.p]
def oEnd : KEnd := ⟨0, 0⟩
theorem eg_End : Try.prog.eqGuardType Try.prog.depth 29 = false := by kernel_rfl
set_option maxRecDepth 100000 in
set_option maxHeartbeats 2000000 in
theorem eqc_End (a0 : Int) (a1 : Int) (b0 : Int) (b1 : Int) (w : World) : (Op.equalIn 10000 29 (.agg #[.int .u32 a0, .int .i64 a1]) (.agg #[.int .u32 b0, .int .i64 b1])).run Try.prog w = .ok (decide (a0 = b0) && (decide (a1 = b1))) w := by
  have hS : Try.prog.underlying 29 = some (.struct (Try.prog.fieldsOf 29)) := by kernel_rfl
  have hp : Try.prog.stoodInHeld 29 = false := by kernel_rfl
  rw [show (10000 : Nat) = 9999 + 1 from rfl, run_equalIn_agg w 9999 29 _ _ hS hp]
  simp only [Program.fieldsOf, Try.underlying29]
  go_simp
  simp only [ite_okb, Bool.and_true]
theorem eqT_End (p : KEnd) (w : World) : (Op.equalIn 10000 29 (.agg (cEnd p).toArray) (.agg (cEnd p).toArray)).run Try.prog w = .ok true w := by
  unfold cEnd
  rw [eqc_End]
  simp
theorem eqF_End (p q : KEnd) (h : p ≠ q) (w : World) : (Op.equalIn 10000 29 (.agg (cEnd p).toArray) (.agg (cEnd q).toArray)).run Try.prog w = .ok false w := by
  unfold cEnd
  rw [eqc_End]
  congr 1
  refine Bool.eq_false_iff.2 fun e => h ?_
  simp only [Bool.and_eq_true, decide_eq_true_eq] at e
  cases p; cases q
  obtain ⟨e0, e1⟩ := e
  simp only at e0 e1
  subst e0 e1
  rfl
structure KPiece where
  at_ : Int
  syn : Bool
  fin : Bool
  b : ByteArray
def cPiece (p : KPiece) : List Value := [.int .i64 p.at_, .bool p.syn, .bool p.fin, .string p.b]
def oPiece : KPiece := ⟨0, false, false, ⟨#[]⟩⟩
structure KPrefix where
  a : Int
  n : Int
def cPrefix (p : KPrefix) : List Value := [.int .u32 p.a, .int .i64 p.n]
def oPrefix : KPrefix := ⟨0, 0⟩
theorem eg_Prefix : Try.prog.eqGuardType Try.prog.depth 62 = false := by kernel_rfl
set_option maxRecDepth 100000 in
set_option maxHeartbeats 2000000 in
theorem eqc_Prefix (a0 : Int) (a1 : Int) (b0 : Int) (b1 : Int) (w : World) : (Op.equalIn 10000 62 (.agg #[.int .u32 a0, .int .i64 a1]) (.agg #[.int .u32 b0, .int .i64 b1])).run Try.prog w = .ok (decide (a0 = b0) && (decide (a1 = b1))) w := by
  have hS : Try.prog.underlying 62 = some (.struct (Try.prog.fieldsOf 62)) := by kernel_rfl
  have hp : Try.prog.stoodInHeld 62 = false := by kernel_rfl
  rw [show (10000 : Nat) = 9999 + 1 from rfl, run_equalIn_agg w 9999 62 _ _ hS hp]
  simp only [Program.fieldsOf, Try.underlying62]
  go_simp
  simp only [ite_okb, Bool.and_true]
theorem eqT_Prefix (p : KPrefix) (w : World) : (Op.equalIn 10000 62 (.agg (cPrefix p).toArray) (.agg (cPrefix p).toArray)).run Try.prog w = .ok true w := by
  unfold cPrefix
  rw [eqc_Prefix]
  simp
theorem eqF_Prefix (p q : KPrefix) (h : p ≠ q) (w : World) : (Op.equalIn 10000 62 (.agg (cPrefix p).toArray) (.agg (cPrefix q).toArray)).run Try.prog w = .ok false w := by
  unfold cPrefix
  rw [eqc_Prefix]
  congr 1
  refine Bool.eq_false_iff.2 fun e => h ?_
  simp only [Bool.and_eq_true, decide_eq_true_eq] at e
  cases p; cases q
  obtain ⟨e0, e1⟩ := e
  simp only at e0 e1
  subst e0 e1
  rfl
structure KBound where
  pr : Int
  la : Int
  lp : Int
  ra : Int
  rp : Int
  sh : Bool
  ow : Int
def cBound (p : KBound) : List Value := [.int .i64 p.pr, .int .u32 p.la, .int .i64 p.lp, .int .u32 p.ra, .int .i64 p.rp, .bool p.sh, .int .i64 p.ow]
def oBound : KBound := ⟨0, 0, 0, 0, 0, false, 0⟩
theorem eg_Bound : Try.prog.eqGuardType Try.prog.depth 68 = false := by kernel_rfl
set_option maxRecDepth 100000 in
set_option maxHeartbeats 2000000 in
theorem eqc_Bound (a0 : Int) (a1 : Int) (a2 : Int) (a3 : Int) (a4 : Int) (a5 : Bool) (a6 : Int) (b0 : Int) (b1 : Int) (b2 : Int) (b3 : Int) (b4 : Int) (b5 : Bool) (b6 : Int) (w : World) : (Op.equalIn 10000 68 (.agg #[.int .i64 a0, .int .u32 a1, .int .i64 a2, .int .u32 a3, .int .i64 a4, .bool a5, .int .i64 a6]) (.agg #[.int .i64 b0, .int .u32 b1, .int .i64 b2, .int .u32 b3, .int .i64 b4, .bool b5, .int .i64 b6])).run Try.prog w = .ok (decide (a0 = b0) && (decide (a1 = b1) && (decide (a2 = b2) && (decide (a3 = b3) && (decide (a4 = b4) && (decide (a5 = b5) && (decide (a6 = b6)))))))) w := by
  have hS : Try.prog.underlying 68 = some (.struct (Try.prog.fieldsOf 68)) := by kernel_rfl
  have hp : Try.prog.stoodInHeld 68 = false := by kernel_rfl
  rw [show (10000 : Nat) = 9999 + 1 from rfl, run_equalIn_agg w 9999 68 _ _ hS hp]
  simp only [Program.fieldsOf, Try.underlying68]
  go_simp
  simp only [ite_okb, Bool.and_true]
theorem eqT_Bound (p : KBound) (w : World) : (Op.equalIn 10000 68 (.agg (cBound p).toArray) (.agg (cBound p).toArray)).run Try.prog w = .ok true w := by
  unfold cBound
  rw [eqc_Bound]
  simp
theorem eqF_Bound (p q : KBound) (h : p ≠ q) (w : World) : (Op.equalIn 10000 68 (.agg (cBound p).toArray) (.agg (cBound q).toArray)).run Try.prog w = .ok false w := by
  unfold cBound
  rw [eqc_Bound]
  congr 1
  refine Bool.eq_false_iff.2 fun e => h ?_
  simp only [Bool.and_eq_true, decide_eq_true_eq] at e
  cases p; cases q
  obtain ⟨e0, e1, e2, e3, e4, e5, e6⟩ := e
  simp only at e0 e1 e2 e3 e4 e5 e6
  subst e0 e1 e2 e3 e4 e5 e6
  rfl
section
variable {P : Program} {ops : Array Oper} {rest : List Oper} {op : Oper} {a : Act} {w : World} {Q : Exit → Act → World → Prop}
/-- two structs compared -/
theorem wpList_eq_mem (hgd : Region.wanted op (yielded ops a.tmps) = true) (T : TypeId) (x y : Operand) (R : TypeId) (ho : op.op = .binOp .eql T x y R) (X Y : Array Value) (hx : a.eval x = .agg X) (hy : a.eval y = .agg Y)
    (hg : P.eqGuardType P.depth T = false) (b : Bool) (heq : ∀ W, (Op.equalIn 10000 T (.agg X) (.agg Y)).run P W = .ok b W) (h : wpList P ops Q rest (a.put op.dst (.bool b)) w) : wpList P ops Q (op :: rest) a w :=
  wpList_step fun K hK => by
    rw [if_pos hgd]
    unfold Oper.wp execOp
    simp only [ho, hx, hy, Sem.run_bind, run_eqGuard_agg (hm := hg), run_eql_struct, heq, Sem.run_pure, Result.andThen_ok]
    exact hK _ _ h
theorem wpList_ne_mem (hgd : Region.wanted op (yielded ops a.tmps) = true) (T : TypeId) (x y : Operand) (R : TypeId) (ho : op.op = .binOp .neq T x y R) (X Y : Array Value) (hx : a.eval x = .agg X) (hy : a.eval y = .agg Y)
    (hg : P.eqGuardType P.depth T = false) (b : Bool) (heq : ∀ W, (Op.equalIn 10000 T (.agg X) (.agg Y)).run P W = .ok b W) (h : wpList P ops Q rest (a.put op.dst (.bool !b)) w) : wpList P ops Q (op :: rest) a w :=
  wpList_step fun K hK => by
    rw [if_pos hgd]
    unfold Oper.wp execOp
    simp only [ho, hx, hy, Sem.run_bind, run_eqGuard_agg (hm := hg), run_neq_struct, heq, Sem.run_pure, Result.andThen_ok]
    exact hK _ _ h
theorem run_loadVar_one {d : TypeDesc} (g i : Nat) (T : TypeId) (v : Value) (h : w.cell? ⟨g, i, none⟩ = some v) (hu : P.underlying T = some d) (hd : d.isRow = false) : (loadVar T ⟨g, i, none⟩).run P w = .ok v w := by
  have hagg : (isAgg T).run P w = .ok false w := by
    unfold isAgg
    rw [Sem.run_bind, run_underlying hu w]
    cases d <;> simp_all
  simp [loadVar, Sem.run_bind, hagg, h]
/-- one cell of what is known, read -/
theorem wpList_load1_mem {E : Nat → Prop} {w0 : World} {l : List Res} (hgd : Region.wanted op (yielded ops a.tmps) = true) (T : TypeId) (x : Operand) (ho : op.op = .load T x) (d : TypeDesc) (hu : P.underlying T = some d) (hd : d.isRow = false) (k : Nat) (g : Nat) (t : TypeId) (cs : List Value) (i : Nat) (v : Value) (hM : MemX E w0 w l) (hk : l[k]? = some (atR g t cs)) (hx : a.eval x = .pointer (some ⟨g, i, none⟩))
    (hv : cs[i]? = some v) (h : wpList P ops Q rest (a.put op.dst v) w) : wpList P ops Q (op :: rest) a w :=
  wpList_step fun K hK => by
    rw [if_pos hgd]
    unfold Oper.wp execOp
    simp only [ho, hx, Instr.loadAt, Instr.sureAddr, Sem.run_bind, Sem.run_pure, Result.andThen_ok, run_loadVar_one g i T v ((hM.cells k hk i).trans hv) hu hd]
    exact hK _ _ h
/-- one cell of what is known, read, whatever its type -/
theorem wpList_loadf_mem {E : Nat → Prop} {w0 : World} {l : List Res} (hgd : Region.wanted op (yielded ops a.tmps) = true) (T : TypeId) (x : Operand) (ho : op.op = .load T x) (hr : (P.underlying T).map (·.isRow) = some false) (k : Nat) (g : Nat) (t : TypeId) (cs : List Value) (i : Nat) (v : Value) (hM : MemX E w0 w l) (hk : l[k]? = some (atR g t cs)) (hx : a.eval x = .pointer (some ⟨g, i, none⟩))
    (hv : cs[i]? = some v) (h : wpList P ops Q rest (a.put op.dst v) w) : wpList P ops Q (op :: rest) a w := by
  cases hu : P.underlying T with
  | none => rw [hu] at hr; cases hr
  | some d =>
    rw [hu] at hr
    exact wpList_load1_mem hgd T x ho d hu (Option.some.inj hr) k g t cs i v hM hk hx hv h
theorem run_storeVar_off (w : World) (g o : Nat) (T : TypeId) (v : Value) (cs : List Value) (hv : v.cells = cs.toArray) (ht : w.there g o cs.length) (hi : (P.info? T).map (·.size) = some cs.length) (h1 : cs.all (·.oneCell') = true) :
    (storeVar T ⟨g, o, none⟩ v).run P w = .ok () (w.setCells g o cs) := by
  have := run_storeCells_cells (P := P) g o cs 0 w (fun j hj => by simpa using (ht j hj).1) (fun j hj => by simpa using (ht j hj).2) (fun v hv => List.all_eq_true.1 h1 v hv)
  cases hq : P.info? T with
  | none => simp [hq] at hi
  | some i =>
    have hs : cs.length = i.size := by simp [hq] at hi; omega
    simp only [Nat.add_zero] at this
    simp [storeVar, sizeOf, typeInfo, hq, hv, hs, this]
/-- one cell of what is known, written -/
theorem wpList_store1_mem {E : Nat → Prop} {w0 : World} {l : List Res} (hgd : op.guard = none) (T : TypeId) (x y : Operand) (ho : op.op = .store T x y) (k : Nat) (g : Nat) (t : TypeId) (cs : List Value) (i : Nat) (v : Value) (hM : MemX E w0 w l) (hk : l[k]? = some (atR g t cs)) (hx : a.eval x = .pointer (some ⟨g, i, none⟩)) (hy : a.eval y = v)
    (hv : v.cells = [v].toArray) (h1 : v.oneCell' = true) (hi : (P.info? T).map (·.size) = some 1) (hlt' : (cs[i]?).isSome = true)
    (h : ∀ W, MemX E w0 W (l.set k (atR g t (cs.set i v))) → wpList P ops Q rest (a.put op.dst undef) W) : wpList P ops Q (op :: rest) a w := by
  have hlt : i < cs.length := by
    by_cases h0 : i < cs.length
    · exact h0
    · rw [List.getElem?_eq_none (by omega)] at hlt'; cases hlt'
  have hA := hM.at_ k hk
  have ht : w.there g i [v].length := fun j hj => by
    have : j = 0 := by simpa using hj
    subst this
    exact ⟨by rw [Nat.add_zero, hA.cell, List.getElem?_eq_getElem hlt]; rfl, hA.free _⟩
  refine wpList_plain hgd fun K hK => ?_
  unfold Oper.wp execOp
  simp only [ho, hx, hy, Instr.storeAt, Instr.sureAddr, Sem.run_bind, Sem.run_pure, Result.andThen_ok, run_storeVar_off w g i T v [v] hv ht hi (by simp [h1])]
  refine hK _ _ (h _ ?_)
  have e : w.setCells g i [v] = w.setCell ⟨g, i, none⟩ v := rfl
  rw [e]
  exact hM.atPut k hk (only_set (only_refl w _) (.inl rfl) v) (hA.set_ i v)
end
end Go.Proofs.Ytfpifahkpkjfgaa
