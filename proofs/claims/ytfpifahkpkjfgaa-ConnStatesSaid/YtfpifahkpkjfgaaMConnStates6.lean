/- What ConnStates needs, part 6: St, Own, Bits, CodC, Buf. -/
import Derived.Laws.StructEq
import Derived.Laws.CopyOwn
import Derived.Test.YtfpifahkpkjfgaaMConnStates1
import Derived.Test.YtfpifahkpkjfgaaMConnStates2
import Derived.Test.YtfpifahkpkjfgaaMConnStates3
import Derived.Test.YtfpifahkpkjfgaaMConnStates5
/- The structs of the program as structures; what '==' says of two of them. -/
namespace Go.Proofs.Ytfpifahkpkjfgaa
open Go.RowKit
set_option linter.unusedVariables false

theorem ite_okb {c : Prop} [Decidable c] (x : Bool) (w : World) : (if c then Result.ok x w else Result.ok false w) = Result.ok (decide c && x) w := by
  split <;> simp [*]
structure KGram where
  fa : Int
  fp : Int
  ta : Int
  tp : Int
  b : ByteArray
def cGram (p : KGram) : List Value := [.int .u32 p.fa, .int .i64 p.fp, .int .u32 p.ta, .int .i64 p.tp, .string p.b]
def oGram : KGram := ⟨0, 0, 0, 0, ⟨#[]⟩⟩
theorem eg_Gram : Try.prog.eqGuardType Try.prog.depth 66 = false := by kernel_rfl
set_option maxRecDepth 100000 in
set_option maxHeartbeats 2000000 in
theorem eqc_Gram (a0 : Int) (a1 : Int) (a2 : Int) (a3 : Int) (a4 : ByteArray) (b0 : Int) (b1 : Int) (b2 : Int) (b3 : Int) (b4 : ByteArray) (w : World) : (Op.equalIn 10000 66 (.agg #[.int .u32 a0, .int .i64 a1, .int .u32 a2, .int .i64 a3, .string a4]) (.agg #[.int .u32 b0, .int .i64 b1, .int .u32 b2, .int .i64 b3, .string b4])).run Try.prog w = .ok (decide (a0 = b0) && (decide (a1 = b1) && (decide (a2 = b2) && (decide (a3 = b3) && (decide (a4.toList = b4.toList)))))) w := by
  have hS : Try.prog.underlying 66 = some (.struct (Try.prog.fieldsOf 66)) := by kernel_rfl
  have hp : Try.prog.stoodInHeld 66 = false := by kernel_rfl
  rw [show (10000 : Nat) = 9999 + 1 from rfl, run_equalIn_agg w 9999 66 _ _ hS hp]
  simp only [Program.fieldsOf, Try.underlying66]
  go_simp
  simp only [ite_okb, Bool.and_true]
theorem eqT_Gram (p : KGram) (w : World) : (Op.equalIn 10000 66 (.agg (cGram p).toArray) (.agg (cGram p).toArray)).run Try.prog w = .ok true w := by
  unfold cGram
  rw [eqc_Gram]
  simp
theorem eqF_Gram (p q : KGram) (h : p ≠ q) (w : World) : (Op.equalIn 10000 66 (.agg (cGram p).toArray) (.agg (cGram q).toArray)).run Try.prog w = .ok false w := by
  unfold cGram
  rw [eqc_Gram]
  congr 1
  refine Bool.eq_false_iff.2 fun e => h ?_
  simp only [Bool.and_eq_true, decide_eq_true_eq, ByteArray.toList_eq] at e
  cases p; cases q
  obtain ⟨e0, e1, e2, e3, e4⟩ := e
  simp only at e0 e1 e2 e3 e4
  have e4 := str_ext e4
  subst e0 e1 e2 e3 e4
  rfl
structure KSeg where
  fa : Int
  fp : Int
  ta : Int
  tp : Int
  seq : Int
  ack : Int
  syn : Bool
  has : Bool
  fin : Bool
  rst : Bool
  win : Int
  mss : Int
  b : ByteArray
def cSeg (p : KSeg) : List Value := [.int .u32 p.fa, .int .i64 p.fp, .int .u32 p.ta, .int .i64 p.tp, .int .u32 p.seq, .int .u32 p.ack, .bool p.syn, .bool p.has, .bool p.fin, .bool p.rst, .int .i64 p.win, .int .i64 p.mss, .string p.b]
def oSeg : KSeg := ⟨0, 0, 0, 0, 0, 0, false, false, false, false, 0, 0, ⟨#[]⟩⟩
theorem eg_Seg : Try.prog.eqGuardType Try.prog.depth 33 = false := by kernel_rfl
set_option maxRecDepth 100000 in
set_option maxHeartbeats 2000000 in
theorem eqc_Seg (a0 : Int) (a1 : Int) (a2 : Int) (a3 : Int) (a4 : Int) (a5 : Int) (a6 : Bool) (a7 : Bool) (a8 : Bool) (a9 : Bool) (a10 : Int) (a11 : Int) (a12 : ByteArray) (b0 : Int) (b1 : Int) (b2 : Int) (b3 : Int) (b4 : Int) (b5 : Int) (b6 : Bool) (b7 : Bool) (b8 : Bool) (b9 : Bool) (b10 : Int) (b11 : Int) (b12 : ByteArray) (w : World) : (Op.equalIn 10000 33 (.agg #[.int .u32 a0, .int .i64 a1, .int .u32 a2, .int .i64 a3, .int .u32 a4, .int .u32 a5, .bool a6, .bool a7, .bool a8, .bool a9, .int .i64 a10, .int .i64 a11, .string a12]) (.agg #[.int .u32 b0, .int .i64 b1, .int .u32 b2, .int .i64 b3, .int .u32 b4, .int .u32 b5, .bool b6, .bool b7, .bool b8, .bool b9, .int .i64 b10, .int .i64 b11, .string b12])).run Try.prog w = .ok (decide (a0 = b0) && (decide (a1 = b1) && (decide (a2 = b2) && (decide (a3 = b3) && (decide (a4 = b4) && (decide (a5 = b5) && (decide (a6 = b6) && (decide (a7 = b7) && (decide (a8 = b8) && (decide (a9 = b9) && (decide (a10 = b10) && (decide (a11 = b11) && (decide (a12.toList = b12.toList)))))))))))))) w := by
  have hS : Try.prog.underlying 33 = some (.struct (Try.prog.fieldsOf 33)) := by kernel_rfl
  have hp : Try.prog.stoodInHeld 33 = false := by kernel_rfl
  rw [show (10000 : Nat) = 9999 + 1 from rfl, run_equalIn_agg w 9999 33 _ _ hS hp]
  simp only [Program.fieldsOf, Try.underlying33]
  go_simp
  simp only [ite_okb, Bool.and_true]
theorem eqT_Seg (p : KSeg) (w : World) : (Op.equalIn 10000 33 (.agg (cSeg p).toArray) (.agg (cSeg p).toArray)).run Try.prog w = .ok true w := by
  unfold cSeg
  rw [eqc_Seg]
  simp
theorem eqF_Seg (p q : KSeg) (h : p ≠ q) (w : World) : (Op.equalIn 10000 33 (.agg (cSeg p).toArray) (.agg (cSeg q).toArray)).run Try.prog w = .ok false w := by
  unfold cSeg
  rw [eqc_Seg]
  congr 1
  refine Bool.eq_false_iff.2 fun e => h ?_
  simp only [Bool.and_eq_true, decide_eq_true_eq, ByteArray.toList_eq] at e
  cases p; cases q
  obtain ⟨e0, e1, e2, e3, e4, e5, e6, e7, e8, e9, e10, e11, e12⟩ := e
  simp only at e0 e1 e2 e3 e4 e5 e6 e7 e8 e9 e10 e11 e12
  have e12 := str_ext e12
  subst e0 e1 e2 e3 e4 e5 e6 e7 e8 e9 e10 e11 e12
  rfl
structure KEnd where
  a : Int
  p : Int
def cEnd (p : KEnd) : List Value := [.int .u32 p.a, .int .i64 p.p]
def oEnd : KEnd := ⟨0, 0⟩
theorem eg_End : Try.prog.eqGuardType Try.prog.depth 29 = false := by kernel_rfl
set_option maxRecDepth 100000 in
set_option maxHeartbeats 2000000 in
theorem eqc_End (a0 : Int) (a1 : Int) (b0 : Int) (b1 : Int) (w : World) : (Op.equalIn 10000 29 (.agg #[.int .u32 a0, .int .i64 a1]) (.agg #[.int .u32 b0, .int .i64 b1])).run Try.prog w = .ok (decide (a0 = b0) && (decide (a1 = b1))) w := by
  have hS : Try.prog.underlying 29 = some (.struct (Try.prog.fieldsOf 29)) := by kernel_rfl
  have hp : Try.prog.stoodInHeld 29 = false := by kernel_rfl
  rw [show (10000 : Nat) = 9999 + 1 from rfl, run_equalIn_agg w 9999 29 _ _ hS hp]
  simp only [Program.fieldsOf, Try.underlying29]
  go_simp
  simp only [ite_okb, Bool.and_true]
theorem eqT_End (p : KEnd) (w : World) : (Op.equalIn 10000 29 (.agg (cEnd p).toArray) (.agg (cEnd p).toArray)).run Try.prog w = .ok true w := by
  unfold cEnd
  rw [eqc_End]
  simp
theorem eqF_End (p q : KEnd) (h : p ≠ q) (w : World) : (Op.equalIn 10000 29 (.agg (cEnd p).toArray) (.agg (cEnd q).toArray)).run Try.prog w = .ok false w := by
  unfold cEnd
  rw [eqc_End]
  congr 1
  refine Bool.eq_false_iff.2 fun e => h ?_
  simp only [Bool.and_eq_true, decide_eq_true_eq] at e
  cases p; cases q
  obtain ⟨e0, e1⟩ := e
  simp only at e0 e1
  subst e0 e1
  rfl
structure KPiece where
  at_ : Int
  syn : Bool
  fin : Bool
  b : ByteArray
def cPiece (p : KPiece) : List Value := [.int .i64 p.at_, .bool p.syn, .bool p.fin, .string p.b]
def oPiece : KPiece := ⟨0, false, false, ⟨#[]⟩⟩
structure KPrefix where
  a : Int
  n : Int
def cPrefix (p : KPrefix) : List Value := [.int .u32 p.a, .int .i64 p.n]
def oPrefix : KPrefix := ⟨0, 0⟩
theorem eg_Prefix : Try.prog.eqGuardType Try.prog.depth 62 = false := by kernel_rfl
set_option maxRecDepth 100000 in
set_option maxHeartbeats 2000000 in
theorem eqc_Prefix (a0 : Int) (a1 : Int) (b0 : Int) (b1 : Int) (w : World) : (Op.equalIn 10000 62 (.agg #[.int .u32 a0, .int .i64 a1]) (.agg #[.int .u32 b0, .int .i64 b1])).run Try.prog w = .ok (decide (a0 = b0) && (decide (a1 = b1))) w := by
  have hS : Try.prog.underlying 62 = some (.struct (Try.prog.fieldsOf 62)) := by kernel_rfl
  have hp : Try.prog.stoodInHeld 62 = false := by kernel_rfl
  rw [show (10000 : Nat) = 9999 + 1 from rfl, run_equalIn_agg w 9999 62 _ _ hS hp]
  simp only [Program.fieldsOf, Try.underlying62]
  go_simp
  simp only [ite_okb, Bool.and_true]
theorem eqT_Prefix (p : KPrefix) (w : World) : (Op.equalIn 10000 62 (.agg (cPrefix p).toArray) (.agg (cPrefix p).toArray)).run Try.prog w = .ok true w := by
  unfold cPrefix
  rw [eqc_Prefix]
  simp
theorem eqF_Prefix (p q : KPrefix) (h : p ≠ q) (w : World) : (Op.equalIn 10000 62 (.agg (cPrefix p).toArray) (.agg (cPrefix q).toArray)).run Try.prog w = .ok false w := by
  unfold cPrefix
  rw [eqc_Prefix]
  congr 1
  refine Bool.eq_false_iff.2 fun e => h ?_
  simp only [Bool.and_eq_true, decide_eq_true_eq] at e
  cases p; cases q
  obtain ⟨e0, e1⟩ := e
  simp only at e0 e1
  subst e0 e1
  rfl
structure KBound where
  pr : Int
  la : Int
  lp : Int
  ra : Int
  rp : Int
  sh : Bool
  ow : Int
def cBound (p : KBound) : List Value := [.int .i64 p.pr, .int .u32 p.la, .int .i64 p.lp, .int .u32 p.ra, .int .i64 p.rp, .bool p.sh, .int .i64 p.ow]
def oBound : KBound := ⟨0, 0, 0, 0, 0, false, 0⟩
theorem eg_Bound : Try.prog.eqGuardType Try.prog.depth 68 = false := by kernel_rfl
set_option maxRecDepth 100000 in
set_option maxHeartbeats 2000000 in
theorem eqc_Bound (a0 : Int) (a1 : Int) (a2 : Int) (a3 : Int) (a4 : Int) (a5 : Bool) (a6 : Int) (b0 : Int) (b1 : Int) (b2 : Int) (b3 : Int) (b4 : Int) (b5 : Bool) (b6 : Int) (w : World) : (Op.equalIn 10000 68 (.agg #[.int .i64 a0, .int .u32 a1, .int .i64 a2, .int .u32 a3, .int .i64 a4, .bool a5, .int .i64 a6]) (.agg #[.int .i64 b0, .int .u32 b1, .int .i64 b2, .int .u32 b3, .int .i64 b4, .bool b5, .int .i64 b6])).run Try.prog w = .ok (decide (a0 = b0) && (decide (a1 = b1) && (decide (a2 = b2) && (decide (a3 = b3) && (decide (a4 = b4) && (decide (a5 = b5) && (decide (a6 = b6)))))))) w := by
  have hS : Try.prog.underlying 68 = some (.struct (Try.prog.fieldsOf 68)) := by kernel_rfl
  have hp : Try.prog.stoodInHeld 68 = false := by kernel_rfl
  rw [show (10000 : Nat) = 9999 + 1 from rfl, run_equalIn_agg w 9999 68 _ _ hS hp]
  simp only [Program.fieldsOf, Try.underlying68]
  go_simp
  simp only [ite_okb, Bool.and_true]
theorem eqT_Bound (p : KBound) (w : World) : (Op.equalIn 10000 68 (.agg (cBound p).toArray) (.agg (cBound p).toArray)).run Try.prog w = .ok true w := by
  unfold cBound
  rw [eqc_Bound]
  simp
theorem eqF_Bound (p q : KBound) (h : p ≠ q) (w : World) : (Op.equalIn 10000 68 (.agg (cBound p).toArray) (.agg (cBound q).toArray)).run Try.prog w = .ok false w := by
  unfold cBound
  rw [eqc_Bound]
  congr 1
  refine Bool.eq_false_iff.2 fun e => h ?_
  simp only [Bool.and_eq_true, decide_eq_true_eq] at e
  cases p; cases q
  obtain ⟨e0, e1, e2, e3, e4, e5, e6⟩ := e
  simp only at e0 e1 e2 e3 e4 e5 e6
  subst e0 e1 e2 e3 e4 e5 e6
  rfl
section
variable {P : Program} {ops : Array Oper} {rest : List Oper} {op : Oper} {a : Act} {w : World} {Q : Exit → Act → World → Prop}
/-- two structs compared -/
theorem wpList_eq_mem (hgd : Region.wanted op (yielded ops a.tmps) = true) (T : TypeId) (x y : Operand) (R : TypeId) (ho : op.op = .binOp .eql T x y R) (X Y : Array Value) (hx : a.eval x = .agg X) (hy : a.eval y = .agg Y)
    (hg : P.eqGuardType P.depth T = false) (b : Bool) (heq : ∀ W, (Op.equalIn 10000 T (.agg X) (.agg Y)).run P W = .ok b W) (h : wpList P ops Q rest (a.put op.dst (.bool b)) w) : wpList P ops Q (op :: rest) a w :=
  wpList_step fun K hK => by
    rw [if_pos hgd]
    unfold Oper.wp execOp
    simp only [ho, hx, hy, Sem.run_bind, run_eqGuard_agg (hm := hg), run_eql_struct, heq, Sem.run_pure, Result.andThen_ok]
    exact hK _ _ h
theorem wpList_ne_mem (hgd : Region.wanted op (yielded ops a.tmps) = true) (T : TypeId) (x y : Operand) (R : TypeId) (ho : op.op = .binOp .neq T x y R) (X Y : Array Value) (hx : a.eval x = .agg X) (hy : a.eval y = .agg Y)
    (hg : P.eqGuardType P.depth T = false) (b : Bool) (heq : ∀ W, (Op.equalIn 10000 T (.agg X) (.agg Y)).run P W = .ok b W) (h : wpList P ops Q rest (a.put op.dst (.bool !b)) w) : wpList P ops Q (op :: rest) a w :=
  wpList_step fun K hK => by
    rw [if_pos hgd]
    unfold Oper.wp execOp
    simp only [ho, hx, hy, Sem.run_bind, run_eqGuard_agg (hm := hg), run_neq_struct, heq, Sem.run_pure, Result.andThen_ok]
    exact hK _ _ h
theorem run_loadVar_one {d : TypeDesc} (g i : Nat) (T : TypeId) (v : Value) (h : w.cell? ⟨g, i, none⟩ = some v) (hu : P.underlying T = some d) (hd : d.isRow = false) : (loadVar T ⟨g, i, none⟩).run P w = .ok v w := by
  have hagg : (isAgg T).run P w = .ok false w := by
    unfold isAgg
    rw [Sem.run_bind, run_underlying hu w]
    cases d <;> simp_all
  simp [loadVar, Sem.run_bind, hagg, h]
/-- one cell of what is known, read -/
theorem wpList_load1_mem {E : Nat → Prop} {w0 : World} {l : List Res} (hgd : Region.wanted op (yielded ops a.tmps) = true) (T : TypeId) (x : Operand) (ho : op.op = .load T x) (d : TypeDesc) (hu : P.underlying T = some d) (hd : d.isRow = false) (k : Nat) (g : Nat) (t : TypeId) (cs : List Value) (i : Nat) (v : Value) (hM : MemX E w0 w l) (hk : l[k]? = some (atR g t cs)) (hx : a.eval x = .pointer (some ⟨g, i, none⟩))
    (hv : cs[i]? = some v) (h : wpList P ops Q rest (a.put op.dst v) w) : wpList P ops Q (op :: rest) a w :=
  wpList_step fun K hK => by
    rw [if_pos hgd]
    unfold Oper.wp execOp
    simp only [ho, hx, Instr.loadAt, Instr.sureAddr, Sem.run_bind, Sem.run_pure, Result.andThen_ok, run_loadVar_one g i T v ((hM.cells k hk i).trans hv) hu hd]
    exact hK _ _ h
/-- one cell of what is known, read, whatever its type -/
theorem wpList_loadf_mem {E : Nat → Prop} {w0 : World} {l : List Res} (hgd : Region.wanted op (yielded ops a.tmps) = true) (T : TypeId) (x : Operand) (ho : op.op = .load T x) (hr : (P.underlying T).map (·.isRow) = some false) (k : Nat) (g : Nat) (t : TypeId) (cs : List Value) (i : Nat) (v : Value) (hM : MemX E w0 w l) (hk : l[k]? = some (atR g t cs)) (hx : a.eval x = .pointer (some ⟨g, i, none⟩))
    (hv : cs[i]? = some v) (h : wpList P ops Q rest (a.put op.dst v) w) : wpList P ops Q (op :: rest) a w := by
  cases hu : P.underlying T with
  | none => rw [hu] at hr; cases hr
  | some d =>
    rw [hu] at hr
    exact wpList_load1_mem hgd T x ho d hu (Option.some.inj hr) k g t cs i v hM hk hx hv h
theorem run_storeVar_off (w : World) (g o : Nat) (T : TypeId) (v : Value) (cs : List Value) (hv : v.cells = cs.toArray) (ht : w.there g o cs.length) (hi : (P.info? T).map (·.size) = some cs.length) (h1 : cs.all (·.oneCell') = true) :
    (storeVar T ⟨g, o, none⟩ v).run P w = .ok () (w.setCells g o cs) := by
  have := run_storeCells_cells (P := P) g o cs 0 w (fun j hj => by simpa using (ht j hj).1) (fun j hj => by simpa using (ht j hj).2) (fun v hv => List.all_eq_true.1 h1 v hv)
  cases hq : P.info? T with
  | none => simp [hq] at hi
  | some i =>
    have hs : cs.length = i.size := by simp [hq] at hi; omega
    simp only [Nat.add_zero] at this
    simp [storeVar, sizeOf, typeInfo, hq, hv, hs, this]
/-- one cell of what is known, written -/
theorem wpList_store1_mem {E : Nat → Prop} {w0 : World} {l : List Res} (hgd : op.guard = none) (T : TypeId) (x y : Operand) (ho : op.op = .store T x y) (k : Nat) (g : Nat) (t : TypeId) (cs : List Value) (i : Nat) (v : Value) (hM : MemX E w0 w l) (hk : l[k]? = some (atR g t cs)) (hx : a.eval x = .pointer (some ⟨g, i, none⟩)) (hy : a.eval y = v)
    (hv : v.cells = [v].toArray) (h1 : v.oneCell' = true) (hi : (P.info? T).map (·.size) = some 1) (hlt' : (cs[i]?).isSome = true)
    (h : ∀ W, MemX E w0 W (l.set k (atR g t (cs.set i v))) → wpList P ops Q rest (a.put op.dst undef) W) : wpList P ops Q (op :: rest) a w := by
  have hlt : i < cs.length := by
    by_cases h0 : i < cs.length
    · exact h0
    · rw [List.getElem?_eq_none (by omega)] at hlt'; cases hlt'
  have hA := hM.at_ k hk
  have ht : w.there g i [v].length := fun j hj => by
    have : j = 0 := by simpa using hj
    subst this
    exact ⟨by rw [Nat.add_zero, hA.cell, List.getElem?_eq_getElem hlt]; rfl, hA.free _⟩
  refine wpList_plain hgd fun K hK => ?_
  unfold Oper.wp execOp
  simp only [ho, hx, hy, Instr.storeAt, Instr.sureAddr, Sem.run_bind, Sem.run_pure, Result.andThen_ok, run_storeVar_off w g i T v [v] hv ht hi (by simp [h1])]
  refine hK _ _ (h _ ?_)
  have e : w.setCells g i [v] = w.setCell ⟨g, i, none⟩ v := rfl
  rw [e]
  exact hM.atPut k hk (only_set (only_refl w _) (.inl rfl) v) (hA.set_ i v)
end
end Go.Proofs.Ytfpifahkpkjfgaa
/- Slices of bytes in Mem. -/
namespace Go.Proofs.Ytfpifahkpkjfgaa
open Go.RowKit
set_option linter.unusedVariables false

def ownR (base : Nat) (v : Value) (l : List Int) : Res := winR base 1 v l.length (l.map b8)
section
variable {E : Nat → Prop} {w W W' : World} {r : List Res} {base : Nat} {v v' : Value} {l l' : List Int}
theorem MemX.own (h : MemX E w W r) (k : Nat) (hk : r[k]? = some (ownR base v l)) : OwnB W base v l := h.win_ k hk
theorem MemX.ownPut (h : MemX E w W r) (k : Nat) (hk : r[k]? = some (ownR base v l)) (hV : OwnB W' base v' l') (hO : W.grownBy W' v.ownBlock) (hat : v'.ownBlock = v.ownBlock ∨ ∃ k, v'.ownBlock = some k ∧ W.heap.size ≤ k) : MemX E w W' (r.set k (ownR base v' l')) := h.winPut k hk hO hV hat
theorem MemX.ownNil (h : MemX E w W r) (base : Nat) : MemX E w W (r ++ [ownR base (.slice none 0 0) []]) := h.winNil base 1
/-- the same block, written in place -/
theorem MemX.ownSet {g off cap n : Nat} (h : MemX E w W r) (k : Nat) (hk : r[k]? = some (ownR base (.slice (some ⟨g, off, none⟩) n cap) l)) (hl : l.length = n) (hl' : l'.length = n) (hV : WinAt W' base 1 g off cap n (l'.map b8)) (hO : W.grownBy W' (some g)) :
    MemX E w W' (r.set k (ownR base (.slice (some ⟨g, off, none⟩) n cap) l')) :=
  h.ownPut k hk (by subst hl'; exact ⟨by simp, .inr ⟨g, off, cap, rfl, hV⟩⟩) hO (.inl rfl)
end
end Go.Proofs.Ytfpifahkpkjfgaa
/- Bits and bytes as numbers: masks, shifts and 'or' of parts that do not meet. -/
namespace Go.Proofs.Ytfpifahkpkjfgaa
open Go.RowKit
set_option linter.unusedVariables false

theorem wrap_u64_in (n : Int) (h : 0 ≤ n) (h' : n ≤ 18446744073709551615) : IntKind.u64.wrap n = n := by rw [IntKind.wrap_u64]; omega
theorem nat_or_parts (a b k : Nat) (hb : b < 2 ^ k) : a * 2 ^ k ||| b = a * 2 ^ k + b := by
  rw [← Nat.shiftLeft_eq, Nat.shiftLeft_add_eq_or_of_lt hb]
theorem u64_and_ffff (k : Int) (h : 0 ≤ k) (h' : k ≤ 18446744073709551615) : bits .and .u64 k 65535 = k % 65536 := by
  obtain ⟨K, rfl⟩ := Int.eq_ofNat_of_zero_le h
  rw [show (65535 : Int) = ((65535 : Nat) : Int) from rfl, u64_and_nat K 65535 (by omega) (by omega), show (65535 : Nat) = 2 ^ 16 - 1 from rfl, Nat.and_two_pow_sub_one_eq_mod]
  omega
theorem u64_or_byte (a b : Int) (h : 0 ≤ a) (h' : a ≤ 16777215) (hb : 0 ≤ b) (hb' : b ≤ 255) : bits .or .u64 (a * 256) b = a * 256 + b := by
  obtain ⟨A, rfl⟩ := Int.eq_ofNat_of_zero_le h
  obtain ⟨B, rfl⟩ := Int.eq_ofNat_of_zero_le hb
  rw [show ((A : Int) * 256) = ((A * 2 ^ 8 : Nat) : Int) by omega, u64_or_nat _ B (by omega) (by omega), nat_or_parts A B 8 (by omega)]
  omega
theorem u16_or_byte (a b : Int) (h : 0 ≤ a) (h' : a ≤ 255) (hb : 0 ≤ b) (hb' : b ≤ 255) : bits .or .u16 (a * 256) b = a * 256 + b := by
  obtain ⟨A, rfl⟩ := Int.eq_ofNat_of_zero_le h
  obtain ⟨B, rfl⟩ := Int.eq_ofNat_of_zero_le hb
  rw [show ((A : Int) * 256) = ((A * 2 ^ 8 : Nat) : Int) by omega, u16_or_nat _ B (by omega) (by omega), nat_or_parts A B 8 (by omega)]
  omega
theorem u16_or_swap (a b : Int) (h : 0 ≤ a) (h' : a ≤ 255) (hb : 0 ≤ b) (hb' : b ≤ 255) : bits .or .u16 b (a * 256) = a * 256 + b := by
  obtain ⟨A, rfl⟩ := Int.eq_ofNat_of_zero_le h
  obtain ⟨B, rfl⟩ := Int.eq_ofNat_of_zero_le hb
  rw [show ((A : Int) * 256) = ((A * 2 ^ 8 : Nat) : Int) by omega, u16_or_nat B _ (by omega) (by omega), Nat.or_comm, nat_or_parts A B 8 (by omega)]
  omega

theorem nat_xor_ones (x : Nat) (h : x < 2 ^ 16) : 65535 ^^^ x = 65535 - x := by
  have e : (BitVec.allOnes 16 ^^^ BitVec.ofNat 16 x).toNat = (~~~BitVec.ofNat 16 x).toNat := by rw [BitVec.allOnes_xor]
  rw [BitVec.toNat_xor, BitVec.toNat_not, BitVec.toNat_allOnes, BitVec.toNat_ofNat, Nat.mod_eq_of_lt h] at e
  exact e
theorem u16_signed : IntKind.u16.signed = false := rfl
theorem u16_not (x : Int) (h : 0 ≤ x) (h' : x ≤ 65535) : bits .xor .u16 IntKind.u16.max x = 65535 - x := by
  obtain ⟨X, rfl⟩ := Int.eq_ofNat_of_zero_le h
  rw [show IntKind.u16.max = ((65535 : Nat) : Int) from rfl, u16_xor_nat 65535 X (by omega) (by omega), nat_xor_ones X (by omega)]
  omega
theorem wrap_u16_is (n : Int) : IntKind.u16.wrap n = n % 65536 := IntKind.wrap_u16 n

theorem data_len (u : ByteArray) : u.data.toList.length = u.size := by rw [Array.length_toList]; rfl
theorem str_none {u : ByteArray} (h : u.size = 0) : u.toList.isEmpty = true := by
  rw [ByteArray.toList_eq, List.isEmpty_iff]
  exact List.eq_nil_of_length_eq_zero (by rw [data_len, h])
theorem str_some {u : ByteArray} (h : 0 < u.size) : u.toList.isEmpty = false := by
  rw [ByteArray.toList_eq, List.isEmpty_eq_false_iff]
  intro e
  have := data_len u
  rw [e] at this
  simp at this
  omega
theorem str_none' {u : ByteArray} (h : u.size = 0) : (!u.toList.isEmpty) = false := by rw [str_none h]; rfl
theorem str_some' {u : ByteArray} (h : 0 < u.size) : (!u.toList.isEmpty) = true := by rw [str_some h]; rfl
end Go.Proofs.Ytfpifahkpkjfgaa
/- Contracts of wire.Get16, Get32, Put16. -/
namespace Go.Proofs.Ytfpifahkpkjfgaa
open Go.RowKit
set_option linter.unusedVariables false

/-- bytes that lie in memory: place j of block g holds B j -/
def Bts (w : World) (g n : Nat) (B : Nat → Int) : Prop := ∀ j, j < n → w.cell? ⟨g, j, none⟩ = some (.int .u8 (B j))
def BOk (B : Nat → Int) : Prop := ∀ j, 0 ≤ B j ∧ B j ≤ 255
theorem Bts.kept {w w' : World} {g n : Nat} {B : Nat → Int} (h : Bts w g n B) (hb : Below w.heap.size w w') : Bts w' g n B := fun j hj => keep_cell hb (h j hj)
theorem word16 (x y : Int) (hx : 0 ≤ x) (hx' : x ≤ 255) (hy : 0 ≤ y) (hy' : y ≤ 255) :
    bits BinOp.or IntKind.u16 (IntKind.u16.wrap (IntKind.u16.wrap x * 256)) (IntKind.u16.wrap y) = x * 256 + y := by
  have e1 : IntKind.u16.wrap x = x := by rw [IntKind.wrap_u16]; omega
  have e2 : IntKind.u16.wrap y = y := by rw [IntKind.wrap_u16]; omega
  have e3 : IntKind.u16.wrap (x * 256) = x * 256 := by rw [IntKind.wrap_u16]; omega
  rw [e1, e2, e3, u16_or_byte x y hx hx' hy hy']
end Go.Proofs.Ytfpifahkpkjfgaa
/- A text's bytes in memory of one's own ('[]byte(s)'), read and written in place. -/
namespace Go.Proofs.Ytfpifahkpkjfgaa
open Go.RowKit
set_option linter.unusedVariables false

/-- byte k of a list of bytes -/
def lb (L : List UInt8) (k : Nat) : Int := ((L[k]?.getD 0).toNat : Int)
theorem lb_ok (L : List UInt8) : BOk (lb L) := fun k => by
  unfold lb; have := (L[k]?.getD 0).toNat_lt; omega
structure Buf (W : World) (g : Nat) (L : List UInt8) : Prop where
  lt : g < W.heap.size
  here : ∀ (k : Nat) (u : UInt8), L[k]? = some u → W.cell? ⟨g, k, none⟩ = some (.int .u8 (u.toNat : Int))
  free : ∀ k, k < L.length → W.frozen? ⟨g, k, none⟩ = false
def bufR (g : Nat) (L : List UInt8) : Res := ⟨some g, fun W => Buf W g L⟩
theorem bufR_stab (g : Nat) (L : List UInt8) : (bufR g L).Stab := fun w w' h hs hb => by
  have hg := hb g rfl
  exact ⟨Nat.lt_of_lt_of_le h.lt hs, fun k u hk => (World.cell?_of_block hg).trans (h.here k u hk), fun k hk => (World.frozen?_of_block hg).trans (h.free k hk)⟩
section
variable {E : Nat → Prop} {w W W' : World} {r : List Res} {g : Nat} {L : List UInt8}
theorem MemX.buf (h : MemX E w W r) (k : Nat) (hk : r[k]? = some (bufR g L)) : Buf W g L := h.get k hk
theorem Buf.bts (h : Buf W g L) : Bts W g L.length (lb L) := fun j hj => by
  unfold lb
  rw [List.getElem?_eq_getElem hj, Option.getD_some]
  exact h.here j _ (List.getElem?_eq_getElem hj)
theorem Buf.back (h : Buf W g L) : ∀ k (hk : k < L.length), W.cell? ((⟨g, 0, none⟩ : Addr).add k) = some (.int .u8 (L[k].toNat : Int)) := fun k hk => by
  rw [Addr.add_mid, Nat.zero_add]
  exact h.here k _ (List.getElem?_eq_getElem hk)
theorem Buf.set_ (h : Buf W g L) (k : Nat) (u : UInt8) (v : Int) (hv : v = (u.toNat : Int)) : Buf (W.setCell ⟨g, k, none⟩ (.int .u8 v)) g (L.set k u) := by
  subst hv
  refine ⟨by simpa [World.setCell] using h.lt, fun j x hj => ?_, fun j hj => by rw [World.frozen?_setCell]; exact h.free j (by simpa using hj)⟩
  by_cases e : k = j
  · subst e
    have hk : k < L.length := by have := (List.getElem?_eq_some_iff.1 hj).1; simpa using this
    rw [List.getElem?_set_self hk] at hj
    cases hj
    exact World.cell?_setCell_same _ _ _ (h.here k _ (List.getElem?_eq_getElem hk))
  · rw [List.getElem?_set_ne e] at hj
    rw [World.cell?_setCell_other _ _ _ _ (by intro x; injection x with _ x2 _; omega)]
    exact h.here j x hj
theorem MemX.bufPut {L' : List UInt8} (h : MemX E w W r) (k : Nat) (hk : r[k]? = some (bufR g L)) (hO : W.grownBy W' (some g)) (hB : Buf W' g L') : MemX E w W' (r.set k (bufR g L')) :=
  h.upd k hk hO (bufR_stab _ _) hB (fun j hj => ⟨.inl hj, (Option.some.inj (show some g = some j from hj)) ▸ hB.lt⟩)
end
theorem data_len' (s : ByteArray) : s.data.toList.length = s.size := by simp
/-- '[]byte(s)' -/
theorem wpList_bytes_mem {E : Nat → Prop} {ops : Array Oper} {rest : List Oper} {op : Oper} {a : Act} {w0 w : World} {Q : Exit → Act → World → Prop} {l : List Res} (hgd : op.guard = none) (x : Operand) (ho : op.op = .convert 9 104 x) (s : ByteArray) (hx : a.eval x = .string s) (hs : s.size ≤ 140737488355328) (hM : MemX E w0 w l)
    (h : ∀ g c W, s.size ≤ c → c ≤ 9223372036854775807 → MemX E w0 W (l ++ [bufR g s.data.toList]) → wpList Try.prog ops Q rest (a.put op.dst (.slice (some ⟨g, 0, none⟩) s.size c)) W) : wpList Try.prog ops Q (op :: rest) a w :=
  wpList_plain hgd fun K hK => by
    have hr := run_bytes_of_string (P := Try.prog) w 9 104 5 s Try.underlying9 Try.underlying104 Try.underlying5
    have hge := grownCap_ge w s.size 0 5
    have hle := grownCap_le_maxLen w s.size 0 5 (by simp only [maxLen]; omega)
    simp only [maxLen] at hle
    unfold Oper.wp execOp
    simp only [ho, hx, hr, Sem.run_bind, Sem.run_pure, Result.andThen_ok]
    refine hK _ _ (h w.heap.size _ _ hge hle ?_)
    generalize grownCap w s.size 0 5 = c at *
    have hlt : w.heap.size < (w.drew.alloc (.cells (bytesRow s c) 5 ((bytesRow s c).size, (bytesRow s c).size + 1))).heap.size := by simp
    refine hM.push (below_ca (Below.refl _ _).drew _) (bufR_stab _ _) ⟨hlt, fun k u hk => ?_, fun k hk => ?_⟩ (fun j hj => ?_)
    · obtain ⟨hk', e⟩ := List.getElem?_eq_some_iff.1 hk
      have hk2 : k < s.data.size := by simpa using hk'
      show (w.drew.alloc _).cell? ⟨w.drew.heap.size, k, none⟩ = _
      rw [World.cell?_alloc_mark, bytesRow_at s c k hk2, ← e]
      rfl
    · have hk2 : k < s.size := by simpa using hk
      have : s.size ≤ (bytesRow s c).size := by unfold bytesRow; simp
      show (w.drew.alloc _).frozen? ⟨w.drew.heap.size, k, none⟩ = _
      rw [World.frozen?_alloc_mark]
      simp; omega
    · have : w.heap.size = j := Option.some.inj (show some w.heap.size = some j from hj)
      subst this; exact ⟨Nat.le_refl _, hlt⟩
end Go.Proofs.Ytfpifahkpkjfgaa
