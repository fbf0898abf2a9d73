/- What ConnStops needs, a part: St, ShM, Own, Bits, CodC, Buf, OutqP, OutqC. -/
import Derived.Laws.StructEq
import Derived.Laws.CopyOwn
import Derived.Test.YtfpifahkpkjfgaaMConnStops3
namespace Go.Proofs.Ytfpifahkpkjfgaa
open Go.RowKit
set_option linter.unusedVariables false
theorem ite_okb {c : Prop} [Decidable c] (x : Bool) (w : World) : (if c then Result.ok x w else Result.ok false w) = Result.ok (decide c && x) w := by
 split <;> simp [*]
structure KGram where
 fa : Int
 fp : Int
 ta : Int
 tp : Int
 b : ByteArray
structure KSeg where
 fa : Int
 fp : Int
 ta : Int
 tp : Int
 seq : Int
 ack : Int
 syn : Bool
 has : Bool
 fin : Bool
 rst : Bool
 win : Int
 mss : Int
 b : ByteArray
def cSeg (p : KSeg) : List Value := [.int .u32 p.fa, .int .i64 p.fp, .int .u32 p.ta, .int .i64 p.tp, .int .u32 p.seq, .int .u32 p.ack, .bool p.syn, .bool p.has, .bool p.fin, .bool p.rst, .int .i64 p.win, .int .i64 p.mss, .string p.b]
structure KEnd where
 a : Int
 p : Int
def cEnd (p : KEnd) : List Value := [.int .u32 p.a, .int .i64 p.p]
theorem eg_End : Try.prog.eqGuardType Try.prog.depth 29 = false := by kernel_rfl
set_option maxRecDepth 100000 in
set_option maxHeartbeats 2000000 in
theorem eqc_End (a0 : Int) (a1 : Int) (b0 : Int) (b1 : Int) (w : World) : (Op.equalIn 10000 29 (.agg #[.int .u32 a0, .int .i64 a1]) (.agg #[.int .u32 b0, .int .i64 b1])).run Try.prog w = .ok (decide (a0 = b0) && (decide (a1 = b1))) w := by
 have hS : Try.prog.underlying 29 = some (.struct (Try.prog.fieldsOf 29)) := by kernel_rfl
 have hp : Try.prog.stoodInHeld 29 = false := by kernel_rfl
 rw [show (10000 : Nat) = 9999 + 1 from rfl, run_equalIn_agg w 9999 29 _ _ hS hp]
 simp only [Program.fieldsOf, Try.underlying29]
 go_simp
 simp only [ite_okb, Bool.and_true]
theorem eqT_End (p : KEnd) (w : World) : (Op.equalIn 10000 29 (.agg (cEnd p).toArray) (.agg (cEnd p).toArray)).run Try.prog w = .ok true w := by
 unfold cEnd
 rw [eqc_End]
 simp
theorem eqF_End (p q : KEnd) (h : p ≠ q) (w : World) : (Op.equalIn 10000 29 (.agg (cEnd p).toArray) (.agg (cEnd q).toArray)).run Try.prog w = .ok false w := by
 unfold cEnd
 rw [eqc_End]
 congr 1
 refine Bool.eq_false_iff.2 fun e => h ?_
 simp only [Bool.and_eq_true, decide_eq_true_eq] at e
 cases p; cases q
 obtain ⟨e0, e1⟩ := e
 simp only at e0 e1
 subst e0 e1
 rfl
structure KPiece where
 at_ : Int
 syn : Bool
 fin : Bool
 b : ByteArray
def cPiece (p : KPiece) : List Value := [.int .i64 p.at_, .bool p.syn, .bool p.fin, .string p.b]
structure KPrefix where
 a : Int
 n : Int
structure KBound where
 pr : Int
 la : Int
 lp : Int
 ra : Int
 rp : Int
 sh : Bool
 ow : Int
section
variable {P : Program} {ops : Array Oper} {rest : List Oper} {op : Oper} {a : Act} {w : World} {Q : Exit → Act → World → Prop}
theorem wpList_ne_mem (hgd : Region.wanted op (yielded ops a.tmps) = true) (T : TypeId) (x y : Operand) (R : TypeId) (ho : op.op = .binOp .neq T x y R) (X Y : Array Value) (hx : a.eval x = .agg X) (hy : a.eval y = .agg Y)
  (hg : P.eqGuardType P.depth T = false) (b : Bool) (heq : ∀ W, (Op.equalIn 10000 T (.agg X) (.agg Y)).run P W = .ok b W) (h : wpList P ops Q rest (a.put op.dst (.bool !b)) w) : wpList P ops Q (op :: rest) a w :=
 wpList_step fun K hK => by
  rw [if_pos hgd]
  unfold Oper.wp execOp
  simp only [ho, hx, hy, Sem.run_bind, run_eqGuard_agg (hm := hg), run_neq_struct, heq, Sem.run_pure, Result.andThen_ok]
  exact hK _ _ h
theorem run_loadVar_one {d : TypeDesc} (g i : Nat) (T : TypeId) (v : Value) (h : w.cell? ⟨g, i, none⟩ = some v) (hu : P.underlying T = some d) (hd : d.isRow = false) : (loadVar T ⟨g, i, none⟩).run P w = .ok v w := by
 have hagg : (isAgg T).run P w = .ok false w := by
  unfold isAgg
  rw [Sem.run_bind, run_underlying hu w]
  cases d <;> simp_all
 simp [loadVar, Sem.run_bind, hagg, h]
theorem wpList_load1_mem {E : Nat → Prop} {w0 : World} {l : List Res} (hgd : Region.wanted op (yielded ops a.tmps) = true) (T : TypeId) (x : Operand) (ho : op.op = .load T x) (d : TypeDesc) (hu : P.underlying T = some d) (hd : d.isRow = false) (k : Nat) (g : Nat) (t : TypeId) (cs : List Value) (i : Nat) (v : Value) (hM : MemX E w0 w l) (hk : l[k]? = some (atR g t cs)) (hx : a.eval x = .pointer (some ⟨g, i, none⟩))
  (hv : cs[i]? = some v) (h : wpList P ops Q rest (a.put op.dst v) w) : wpList P ops Q (op :: rest) a w :=
 wpList_step fun K hK => by
  rw [if_pos hgd]
  unfold Oper.wp execOp
  simp only [ho, hx, Instr.loadAt, Instr.sureAddr, Sem.run_bind, Sem.run_pure, Result.andThen_ok, run_loadVar_one g i T v ((hM.cells k hk i).trans hv) hu hd]
  exact hK _ _ h
theorem wpList_loadf_mem {E : Nat → Prop} {w0 : World} {l : List Res} (hgd : Region.wanted op (yielded ops a.tmps) = true) (T : TypeId) (x : Operand) (ho : op.op = .load T x) (hr : (P.underlying T).map (·.isRow) = some false) (k : Nat) (g : Nat) (t : TypeId) (cs : List Value) (i : Nat) (v : Value) (hM : MemX E w0 w l) (hk : l[k]? = some (atR g t cs)) (hx : a.eval x = .pointer (some ⟨g, i, none⟩))
    (hv : cs[i]? = some v) (h : wpList P ops Q rest (a.put op.dst v) w) : wpList P ops Q (op :: rest) a w := by
  cases hu : P.underlying T with
  | none => rw [hu] at hr; cases hr
  | some d =>
    rw [hu] at hr
    exact wpList_load1_mem hgd T x ho d hu (Option.some.inj hr) k g t cs i v hM hk hx hv h
theorem run_storeVar_off (w : World) (g o : Nat) (T : TypeId) (v : Value) (cs : List Value) (hv : v.cells = cs.toArray) (ht : w.there g o cs.length) (hi : (P.info? T).map (·.size) = some cs.length) (h1 : cs.all (·.oneCell') = true) :
    (storeVar T ⟨g, o, none⟩ v).run P w = .ok () (w.setCells g o cs) := by
  have := run_storeCells_cells (P := P) g o cs 0 w (fun j hj => by simpa using (ht j hj).1) (fun j hj => by simpa using (ht j hj).2) (fun v hv => List.all_eq_true.1 h1 v hv)
  cases hq : P.info? T with
  | none => simp [hq] at hi
  | some i =>
    have hs : cs.length = i.size := by simp [hq] at hi; omega
    simp only [Nat.add_zero] at this
    simp [storeVar, sizeOf, typeInfo, hq, hv, hs, this]
theorem wpList_store1_mem {E : Nat → Prop} {w0 : World} {l : List Res} (hgd : op.guard = none) (T : TypeId) (x y : Operand) (ho : op.op = .store T x y) (k : Nat) (g : Nat) (t : TypeId) (cs : List Value) (i : Nat) (v : Value) (hM : MemX E w0 w l) (hk : l[k]? = some (atR g t cs)) (hx : a.eval x = .pointer (some ⟨g, i, none⟩)) (hy : a.eval y = v)
  (hv : v.cells = [v].toArray) (h1 : v.oneCell' = true) (hi : (P.info? T).map (·.size) = some 1) (hlt' : (cs[i]?).isSome = true)
  (h : ∀ W, MemX E w0 W (l.set k (atR g t (cs.set i v))) → wpList P ops Q rest (a.put op.dst undef) W) : wpList P ops Q (op :: rest) a w := by
 have hlt : i < cs.length := by
  by_cases h0 : i < cs.length
  ·exact h0
  ·rw [List.getElem?_eq_none (by omega)] at hlt'; cases hlt'
 have hA := hM.at_ k hk
 have ht : w.there g i [v].length := fun j hj => by
  have : j = 0 := by simpa using hj
  subst this
  exact ⟨by rw [Nat.add_zero, hA.cell, List.getElem?_eq_getElem hlt]; rfl, hA.free _⟩
 refine wpList_plain hgd fun K hK => ?_
 unfold Oper.wp execOp
 simp only [ho, hx, hy, Instr.storeAt, Instr.sureAddr, Sem.run_bind, Sem.run_pure, Result.andThen_ok, run_storeVar_off w g i T v [v] hv ht hi (by simp [h1])]
 refine hK _ _ (h _ ?_)
 have e : w.setCells g i [v] = w.setCell ⟨g, i, none⟩ v := rfl
 rw [e]
 exact hM.atPut k hk (only_set (only_refl w _) (.inl rfl) v) (hA.set_ i v)
end
section
variable {P : Program} {ops : Array Oper} {rest : List Oper} {op : Oper} {a : Act} {w w0 : World} {Q : Exit → Act → World → Prop} {E : Nat → Prop} {l : List Res} {T : TypeId} {x y : Operand} {g i : Nat} {t : TypeId} {cs : List Value} {v : Value}
theorem lM (k : Nat) (hM : MemX E w0 w l) (ho : op.op = .load T x) (hk : l[k]? = some (atR g t cs)) (hx : a.eval x = .pointer (some ⟨g, i, none⟩)) (hv : cs[i]? = some v) (h : wpList P ops Q rest (a.put op.dst v) w)
  (hgd : Region.wanted op (yielded ops a.tmps) = true := by go_simp) (hr : (P.underlying T).map (·.isRow) = some false := by kernel_rfl) : wpList P ops Q (op :: rest) a w :=
 wpList_loadf_mem hgd T x ho hr k g t cs i v hM hk hx hv h
theorem sM (k : Nat) (hM : MemX E w0 w l) (ho : op.op = .store T x y) (hk : l[k]? = some (atR g t cs)) (hx : a.eval x = .pointer (some ⟨g, i, none⟩))
  (h : ∀ W, MemX E w0 W (l.set k (atR g t (cs.set i v))) → wpList P ops Q rest (a.put op.dst undef) W)
  (hgd : op.guard = none := by rfl) (hy : a.eval y = v := by first | ((conv => lhs; whnf); done) | ((conv => lhs; whnf); rfl))
  (hv : v.cells = [v].toArray := by rfl) (h1 : v.oneCell' = true := by rfl) (hi : (P.info? T).map (·.size) = some 1 := by kernel_rfl) (hlt : (cs[i]?).isSome = true := by rfl) : wpList P ops Q (op :: rest) a w :=
 wpList_store1_mem hgd T x y ho k g t cs i v hM hk hx hy hv h1 hi hlt h
end
def ownR (base : Nat) (v : Value) (l : List Int) : Res := winR base 1 v l.length (l.map b8)
section
variable {E : Nat → Prop} {w W W' : World} {r : List Res} {base : Nat} {v v' : Value} {l l' : List Int}
theorem MemX.own (h : MemX E w W r) (k : Nat) (hk : r[k]? = some (ownR base v l)) : OwnB W base v l := h.win_ k hk
theorem MemX.ownPut (h : MemX E w W r) (k : Nat) (hk : r[k]? = some (ownR base v l)) (hV : OwnB W' base v' l') (hO : W.grownBy W' v.ownBlock) (hat : v'.ownBlock = v.ownBlock ∨ ∃ k, v'.ownBlock = some k ∧ W.heap.size ≤ k) : MemX E w W' (r.set k (ownR base v' l')) := h.winPut k hk hO hV hat
theorem MemX.ownNil (h : MemX E w W r) (base : Nat) : MemX E w W (r ++ [ownR base (.slice none 0 0) []]) := h.winNil base 1
end
theorem data_len (u : ByteArray) : u.data.toList.length = u.size := by rw [Array.length_toList]; rfl
theorem str_none {u : ByteArray} (h : u.size = 0) : u.toList.isEmpty = true := by
 rw [ByteArray.toList_eq, List.isEmpty_iff]
 exact List.eq_nil_of_length_eq_zero (by rw [data_len, h])
theorem str_some {u : ByteArray} (h : 0 < u.size) : u.toList.isEmpty = false := by
 rw [ByteArray.toList_eq, List.isEmpty_eq_false_iff]
 intro e
 have := data_len u
 rw [e] at this
 simp at this
 omega
theorem str_none' {u : ByteArray} (h : u.size = 0) : (!u.toList.isEmpty) = false := by rw [str_none h]; rfl
theorem str_some' {u : ByteArray} (h : 0 < u.size) : (!u.toList.isEmpty) = true := by rw [str_some h]; rfl
def Bts (w : World) (g n : Nat) (B : Nat → Int) : Prop := ∀ j, j < n → w.cell? ⟨g, j, none⟩ = some (.int .u8 (B j))
theorem Bts.kept {w w' : World} {g n : Nat} {B : Nat → Int} (h : Bts w g n B) (hb : Below w.heap.size w w') : Bts w' g n B := fun j hj => keep_cell hb (h j hj)
structure Buf (W : World) (g : Nat) (L : List UInt8) : Prop where
 lt : g < W.heap.size
 here : ∀ (k : Nat) (u : UInt8), L[k]? = some u → W.cell? ⟨g, k, none⟩ = some (.int .u8 (u.toNat : Int))
 free : ∀ k, k < L.length → W.frozen? ⟨g, k, none⟩ = false
section
variable {E : Nat → Prop} {w W W' : World} {r : List Res} {g : Nat} {L : List UInt8}
theorem Buf.back (h : Buf W g L) : ∀ k (hk : k < L.length), W.cell? ((⟨g, 0, none⟩ : Addr).add k) = some (.int .u8 (L[k].toNat : Int)) := fun k hk => by
 rw [Addr.add_mid, Nat.zero_add]
 exact h.here k _ (List.getElem?_eq_getElem hk)
theorem Buf.set_ (h : Buf W g L) (k : Nat) (u : UInt8) (v : Int) (hv : v = (u.toNat : Int)) : Buf (W.setCell ⟨g, k, none⟩ (.int .u8 v)) g (L.set k u) := by
 subst hv
 refine ⟨by simpa [World.setCell] using h.lt, fun j x hj => ?_, fun j hj => by rw [World.frozen?_setCell]; exact h.free j (by simpa using hj)⟩
 by_cases e : k = j
 ·subst e
  have hk : k < L.length := by have := (List.getElem?_eq_some_iff.1 hj).1; simpa using this
  rw [List.getElem?_set_self hk] at hj
  cases hj
  exact World.cell?_setCell_same _ _ _ (h.here k _ (List.getElem?_eq_getElem hk))
 ·rw [List.getElem?_set_ne e] at hj
  rw [World.cell?_setCell_other _ _ _ _ (by intro x; injection x with _ x2 _; omega)]
  exact h.here j x hj
end
end Go.Proofs.Ytfpifahkpkjfgaa
namespace Go.Proofs.Ytfpifahkpkjfgaa
set_option linter.unusedVariables false
structure OQ where
 l : List Int
 base : Int
 una : Int
 cur : Int
 sent : Int
 cl : Bool
def newOQ : OQ := ⟨[], 1, 0, 0, 0, false⟩
def oFin (q : OQ) : Int := q.base + q.l.length
def qEnd (q : OQ) : Int := if q.cl then oFin q + 1 else oFin q
def oRoom (q : OQ) : Int := if q.cl then 0 else 2048 - q.l.length
def oN (q : OQ) (s : Nat) : Nat := min s (oRoom q).toNat
def oWrite (q : OQ) (s : ByteArray) : OQ := { q with l := q.l ++ sI (s.extract 0 (oN q s.size)) }
def oLim (q : OQ) (lim : Int) : Int := if lim < qEnd q then lim else qEnd q
def oIs (q : OQ) (fr lim mss : Int) : Bool := decide (fr < oLim q lim) && decide (1 ≤ mss)
def oTo (q : OQ) (fr lim mss : Int) : Int :=
 let t := if oLim q lim < oFin q then oLim q lim else oFin q
 if mss < t - fr then fr + mss else t
def oBody (q : OQ) (fr lim mss : Int) : List Int := if fr < oTo q fr lim mss then (q.l.drop (fr - q.base).toNat).take (oTo q fr lim mss - fr).toNat else []
def oFinB (q : OQ) (fr lim mss : Int) : Bool := q.cl && (decide ((if fr < oTo q fr lim mss then oTo q fr lim mss else fr) = oFin q) && decide (oFin q < oLim q lim))
def qPiece (q : OQ) (fr lim mss : Int) : KPiece :=
 if oIs q fr lim mss then (if fr = 0 then ⟨0, true, false, ⟨#[]⟩⟩ else ⟨fr, false, oFinB q fr lim mss, byteS (oBody q fr lim mss)⟩) else ⟨0, false, false, ⟨#[]⟩⟩
def oLen (p : KPiece) : Int := p.b.size + (if p.syn then 1 else 0) + (if p.fin then 1 else 0)
def oNext (q : OQ) (lim mss : Int) : OQ :=
 let c := q.cur + oLen (qPiece q q.cur lim mss)
 { q with cur := c, sent := if q.sent < c then c else q.sent }
def oAckN (q : OQ) (a : Int) : Int := (if a < oFin q then a else oFin q) - q.base
def oHit (q : OQ) (a : Int) : Bool := decide (q.una < a) && decide (a ≤ q.sent)
def oAck (q : OQ) (a : Int) : OQ :=
 if oHit q a then ⟨if 0 < oAckN q a then q.l.drop (oAckN q a).toNat else q.l, if 0 < oAckN q a then q.base + oAckN q a else q.base, a, if q.cur < a then a else q.cur, q.sent, q.cl⟩ else q
structure OqOk (q : OQ) : Prop where
 len : q.l.length ≤ 2048
 ba : 1 ≤ q.base
 uc : 0 ≤ q.una
 cs : q.una ≤ q.cur
 se : q.cur ≤ q.sent
 ee : q.sent ≤ qEnd q
 rel : (q.una = 0 ∧ q.base = 1) ∨ (1 ≤ q.una ∧ q.base = if q.una < oFin q then q.una else oFin q)
theorem new_ok : OqOk newOQ := ⟨by simp [newOQ], by simp [newOQ], by simp [newOQ], by simp [newOQ], by simp [newOQ], by simp [newOQ, qEnd, oFin], .inl ⟨rfl, rfl⟩⟩
section
variable {q : OQ}
theorem oRoom_bd (ok : OqOk q) : 0 ≤ oRoom q ∧ oRoom q ≤ 2048 := by
 have := ok.len; unfold oRoom; split <;> omega
theorem oN_le (ok : OqOk q) (s : Nat) : oN q s ≤ s ∧ (oN q s : Int) ≤ oRoom q := by
 have := oRoom_bd ok; unfold oN; omega
theorem oWrite_len (ok : OqOk q) (s : ByteArray) : (oWrite q s).l.length = q.l.length + oN q s.size := by
 have := (oN_le ok s.size).1
 simp only [oWrite, List.length_append, sI_len, ByteArray.size_extract]
 omega
theorem write_ok (ok : OqOk q) (s : ByteArray) : OqOk (oWrite q s) := by
 have hl := oWrite_len ok s
 have hn := oN_le ok s.size
 have hr := oRoom_bd ok
 obtain ⟨h1, h2, h3, h4, h5, h6, h7⟩ := ok
 have hf : oFin (oWrite q s) = oFin q + oN q s.size := by unfold oFin; rw [hl]; show q.base + _ = _; omega
 have hcl : (oWrite q s).cl = q.cl := rfl
 have hz : q.cl = true → oN q s.size = 0 := fun h => by have := hn.2; unfold oRoom at this; rw [if_pos h] at this; omega
 refine ⟨?_, h2, h3, h4, h5, ?_, ?_⟩
 ·rw [hl]; unfold oRoom at hn; split at hn <;> omega
 ·show q.sent ≤ _
  unfold qEnd at h6 ⊢
  rw [hf, hcl]; split at h6 <;> split <;> first | omega | contradiction
 ·rcases h7 with h7 | h7
  ·exact .inl h7
  ·refine .inr ⟨h7.1, ?_⟩
   show q.base = if q.una < _ then q.una else _
   rw [hf]
   have h8 := h7.2
   by_cases hc : q.cl = true
   ·rw [hz hc]; simpa using h8
   ·have : qEnd q = oFin q := by unfold qEnd; rw [if_neg hc]
    split at h8 <;> split <;> omega
theorem close_ok (ok : OqOk q) : OqOk { q with cl := true } := by
 obtain ⟨h1, h2, h3, h4, h5, h6, h7⟩ := ok
 refine ⟨h1, h2, h3, h4, h5, ?_, h7⟩
 show q.sent ≤ qEnd { q with cl := true }
 have : qEnd { q with cl := true } = oFin q + 1 := rfl
 unfold qEnd at h6; split at h6 <;> omega
theorem back_ok (ok : OqOk q) : OqOk { q with cur := q.una } := by
 obtain ⟨h1, h2, h3, h4, h5, h6, h7⟩ := ok
 exact ⟨h1, h2, h3, Int.le_refl _, by show q.una ≤ q.sent; omega, h6, h7⟩
theorem qEnd_bd : oFin q ≤ qEnd q ∧ qEnd q ≤ oFin q + 1 := by unfold qEnd; split <;> omega
theorem oLim_le (lim : Int) : oLim q lim ≤ lim ∧ oLim q lim ≤ qEnd q := by unfold oLim; split <;> omega
theorem piece_bd (ok : OqOk q) (lim mss : Int) (h0 : q.cur ≠ 0) (hi : oIs q q.cur lim mss = true) :
  q.base ≤ q.cur ∧ oTo q q.cur lim mss ≤ oFin q ∧ oTo q q.cur lim mss ≤ oLim q lim ∧ oTo q q.cur lim mss - q.cur ≤ mss ∧ q.cur ≤ oFin q ∧
  (oBody q q.cur lim mss).length = (if q.cur < oTo q q.cur lim mss then oTo q q.cur lim mss - q.cur else 0).toNat ∧
  (q.cur < oTo q q.cur lim mss ∨ (q.cur = oFin q ∧ oFinB q q.cur lim mss = true)) := by
 obtain ⟨h1, h2, h3, h4, h5, h6, h7⟩ := ok
 unfold oIs at hi
 simp only [Bool.and_eq_true, decide_eq_true_eq] at hi
 have hl := oLim_le (q := q) lim
 have he := qEnd_bd (q := q)
 have hb : q.base ≤ q.cur := by
  rcases h7 with h7 | h7
  ·omega
  ·have := h7.2; split at this <;> omega
 have ht : oTo q q.cur lim mss ≤ oFin q ∧ oTo q q.cur lim mss ≤ oLim q lim ∧ oTo q q.cur lim mss - q.cur ≤ mss ∧ (q.cur < oTo q q.cur lim mss ∨ oFin q ≤ q.cur) := by
  unfold oTo
  simp only
  split <;> split <;> omega
 obtain ⟨t1, t2, t3, t4⟩ := ht
 have hc : q.cur ≤ oFin q := by omega
 refine ⟨hb, t1, t2, t3, hc, ?_, ?_⟩
 ·unfold oBody
  split
  ·rename_i hlt
   rw [List.length_take, List.length_drop]
   unfold oFin at t1
   omega
  ·simp
 ·by_cases hlt : q.cur < oTo q q.cur lim mss
  ·exact .inl hlt
  ·have hcf : q.cur = oFin q := by omega
   refine .inr ⟨hcf, ?_⟩
   unfold oFinB
   rw [if_neg hlt]
   have hcl : q.cl = true := by
    by_cases hcl : q.cl = true
    ·exact hcl
    ·have : qEnd q = oFin q := by unfold qEnd; rw [if_neg hcl]
     omega
   simp only [hcl, Bool.true_and, Bool.and_eq_true, decide_eq_true_eq]
   omega
theorem oLen_lo (p : KPiece) : 0 ≤ oLen p := by unfold oLen; split <;> split <;> omega
theorem piece_is (ok : OqOk q) (lim mss : Int) (hi : oIs q q.cur lim mss = true) :
  let p := qPiece q q.cur lim mss
  p.at_ = q.cur ∧ (p.b.size : Int) ≤ mss ∧ p.syn = decide (q.cur = 0) ∧ 0 < oLen p ∧ q.cur + oLen p ≤ lim ∧ q.cur + oLen p ≤ qEnd q ∧ q.cur ≤ oFin q ∧
  (p.syn = true → p.fin = false ∧ p.b = ⟨#[]⟩) ∧ (p.fin = true → q.cl = true ∧ q.cur + p.b.size = oFin q) ∧
  (0 < p.b.size → q.base ≤ q.cur ∧ q.cur + p.b.size ≤ oFin q ∧ p.b = byteS ((q.l.drop (q.cur - q.base).toNat).take p.b.size)) := by
 intro p
 by_cases h0 : q.cur = 0
 ·have hp : p = ⟨0, true, false, ⟨#[]⟩⟩ := by show qPiece q q.cur lim mss = _; unfold qPiece; rw [if_pos hi, if_pos h0]
  have hz : ((⟨#[]⟩ : ByteArray).size : Int) = 0 := rfl
  have hl := oLim_le (q := q) lim
  have hf : 1 ≤ oFin q := by have := ok.ba; unfold oFin; omega
  unfold oIs at hi
  simp only [Bool.and_eq_true, decide_eq_true_eq] at hi
  rw [hp]
  refine ⟨h0.symm, by rw [hz]; omega, by simp [h0], by simp [oLen, hz], by simp only [oLen, hz, if_true]; simp; omega, by simp only [oLen, hz, if_true]; simp; omega, by omega, fun _ => ⟨rfl, rfl⟩, fun h => by simp at h, fun h => by simp [ByteArray.size] at h⟩
 ·have hp : p = ⟨q.cur, false, oFinB q q.cur lim mss, byteS (oBody q q.cur lim mss)⟩ := by show qPiece q q.cur lim mss = _; unfold qPiece; rw [if_pos hi, if_neg h0]
  obtain ⟨k1, k2, k3, k4, k5, k6, k7⟩ := piece_bd ok lim mss h0 hi
  have hz : (byteS (oBody q q.cur lim mss)).size = (oBody q q.cur lim mss).length := byteS_sz _
  have hl := oLim_le (q := q) lim
  have he := qEnd_bd (q := q)
  have hi' := hi
  unfold oIs at hi'
  simp only [Bool.and_eq_true, decide_eq_true_eq] at hi'
  have hsz : ((byteS (oBody q q.cur lim mss)).size : Int) = if q.cur < oTo q q.cur lim mss then oTo q q.cur lim mss - q.cur else 0 := by
   rw [hz, k6]; split <;> omega
  have hfb : oFinB q q.cur lim mss = true → q.cl = true ∧ (if q.cur < oTo q q.cur lim mss then oTo q q.cur lim mss else q.cur) = oFin q ∧ oFin q < oLim q lim := by
   intro h; unfold oFinB at h; simpa only [Bool.and_eq_true, decide_eq_true_eq] using h
  rw [hp]
  simp only
  refine ⟨trivial, ?_, by simp [h0], ?_, ?_, ?_, k5, fun h => by simp at h, fun h => ?_, fun h => ?_⟩
  ·rw [hsz]; split <;> omega
  ·unfold oLen; simp only; rw [hsz]
   rcases k7 with k7 | ⟨_, k7⟩
   ·rw [if_pos k7]; split <;> first | omega | (simp; omega)
   ·rw [k7]; simp; split <;> omega
  ·unfold oLen; simp only; rw [hsz]
   by_cases hb : oFinB q q.cur lim mss = true
   ·obtain ⟨_, e2, e3⟩ := hfb hb
    rw [hb]; simp; split at e2 <;> simp_all <;> omega
   ·rw [if_neg hb]; simp; split <;> omega
  ·unfold oLen; simp only; rw [hsz]
   by_cases hb : oFinB q q.cur lim mss = true
   ·obtain ⟨_, e2, e3⟩ := hfb hb
    rw [hb]; simp; split at e2 <;> simp_all <;> omega
   ·rw [if_neg hb]; simp; split <;> omega
  ·obtain ⟨e1, e2, e3⟩ := hfb h
   refine ⟨e1, ?_⟩
   rw [hsz]; split at e2 <;> simp_all <;> omega
  ·have hlt : q.cur < oTo q q.cur lim mss := by
    by_cases hlt : q.cur < oTo q q.cur lim mss
    ·exact hlt
    ·rw [if_neg hlt] at hsz; omega
   rw [if_pos hlt] at hsz
   refine ⟨k1, by rw [hsz]; omega, ?_⟩
   have e : (byteS (oBody q q.cur lim mss)).size = (oTo q q.cur lim mss - q.cur).toNat := by omega
   rw [e]
   congr 1
   unfold oBody
   rw [if_pos hlt]
theorem next_ok (ok : OqOk q) (lim mss : Int) : OqOk (oNext q lim mss) := by
 by_cases hi : oIs q q.cur lim mss = true
 ·obtain ⟨_, _, _, p4, _, p6, _⟩ := piece_is ok lim mss hi
  obtain ⟨h1, h2, h3, h4, h5, h6, h7⟩ := ok
  refine ⟨h1, h2, h3, ?_, ?_, ?_, h7⟩
  ·show q.una ≤ q.cur + _; omega
  ·show q.cur + oLen (qPiece q q.cur lim mss) ≤ (if q.sent < q.cur + oLen (qPiece q q.cur lim mss) then q.cur + oLen (qPiece q q.cur lim mss) else q.sent); split <;> omega
  ·show (if q.sent < q.cur + oLen (qPiece q q.cur lim mss) then q.cur + oLen (qPiece q q.cur lim mss) else q.sent) ≤ qEnd q; split <;> omega
 ·have hp : qPiece q q.cur lim mss = ⟨0, false, false, ⟨#[]⟩⟩ := by unfold qPiece; rw [if_neg hi]
  have hz : oLen (qPiece q q.cur lim mss) = 0 := by rw [hp]; rfl
  have e : oNext q lim mss = q := by
   unfold oNext
   simp only [hz, Int.add_zero]
   rw [if_neg (by have := ok.se; omega)]
  rw [e]; exact ok
theorem next_not (ok : OqOk q) (lim mss : Int) (hi : oIs q q.cur lim mss = false) : oNext q lim mss = q := by
 have hp : qPiece q q.cur lim mss = ⟨0, false, false, ⟨#[]⟩⟩ := by unfold qPiece; rw [if_neg (by rw [hi]; decide)]
 have hz : oLen (qPiece q q.cur lim mss) = 0 := by rw [hp]; rfl
 unfold oNext
 simp only [hz, Int.add_zero]
 rw [if_neg (by have := ok.se; omega)]
theorem ack_n (ok : OqOk q) (a : Int) (h : oHit q a = true) : 0 ≤ oAckN q a ∧ oAckN q a ≤ q.l.length := by
 obtain ⟨h1, h2, h3, h4, h5, h6, h7⟩ := ok
 unfold oHit at h
 simp only [Bool.and_eq_true, decide_eq_true_eq] at h
 unfold oAckN
 have hf : oFin q = q.base + q.l.length := rfl
 rcases h7 with h7 | h7
 ·split <;> omega
 ·have := h7.2
  split at this <;> split <;> omega
theorem ack_fin (ok : OqOk q) (a : Int) : oFin (oAck q a) = oFin q ∧ qEnd (oAck q a) = qEnd q := by
 by_cases h : oHit q a = true
 ·have hn := ack_n ok a h
  have hf : oFin (oAck q a) = oFin q := by
   unfold oAck; rw [if_pos h]; unfold oFin; simp only
   split
   ·rw [List.length_drop]; omega
   ·rfl
  refine ⟨hf, ?_⟩
  unfold qEnd; rw [hf]
  have : (oAck q a).cl = q.cl := by unfold oAck; rw [if_pos h]
  rw [this]
 ·have : oAck q a = q := by unfold oAck; rw [if_neg h]
  rw [this]; exact ⟨rfl, rfl⟩
theorem ack_ok (ok : OqOk q) (a : Int) : OqOk (oAck q a) := by
 have hfe := ack_fin ok a
 by_cases h : oHit q a = true
 ·have hn := ack_n ok a h
  obtain ⟨hf, he⟩ := hfe
  have e : oAck q a = ⟨if 0 < oAckN q a then q.l.drop (oAckN q a).toNat else q.l, if 0 < oAckN q a then q.base + oAckN q a else q.base, a, if q.cur < a then a else q.cur, q.sent, q.cl⟩ := by unfold oAck; rw [if_pos h]
  obtain ⟨h1, h2, h3, h4, h5, h6, h7⟩ := ok
  unfold oHit at h
  simp only [Bool.and_eq_true, decide_eq_true_eq] at h
  refine ⟨?_, ?_, ?_, ?_, ?_, ?_, .inr ⟨?_, ?_⟩⟩
  ·rw [e]; simp only; split
   ·rw [List.length_drop]; omega
   ·exact h1
  ·rw [e]; simp only; split <;> omega
  ·rw [e]; simp only; omega
  ·rw [e]; simp only; split <;> omega
  ·rw [e]; simp only; split <;> omega
  ·rw [he, e]; exact h6
  ·rw [e]; simp only; omega
  ·rw [hf, e]; simp only
   unfold oAckN at hn ⊢
   have hfq : oFin q = q.base + q.l.length := rfl
   rcases h7 with h7 | h7
   ·split at hn <;> split <;> split <;> omega
   ·have := h7.2
    split at hn <;> split <;> split <;> split at this <;> omega
 ·have : oAck q a = q := by unfold oAck; rw [if_neg h]
  rw [this]; exact ok
end
structure Held (q : OQ) (all : List Int) : Prop where
 fin : oFin q = all.length + 1
 here : q.l = all.drop (q.base - 1).toNat
section
variable {q : OQ} {all : List Int}
theorem write_held (ok : OqOk q) (h : Held q all) (s : ByteArray) : Held (oWrite q s) (all ++ sI (s.extract 0 (oN q s.size))) := by
 have hl := oWrite_len ok s
 have hf := h.fin
 have hb := ok.ba
 unfold oFin at hf
 refine ⟨?_, ?_⟩
 ·show q.base + ((q.l ++ sI (s.extract 0 (oN q s.size))).length : Int) = _
  rw [List.length_append, List.length_append]; omega
 ·show q.l ++ _ = (all ++ _).drop (q.base - 1).toNat
  rw [List.drop_append_of_le_length (by omega), ← h.here]
theorem ack_held (ok : OqOk q) (h : Held q all) (a : Int) : Held (oAck q a) all := by
 refine ⟨by rw [(ack_fin ok a).1]; exact h.fin, ?_⟩
 by_cases hh : oHit q a = true
 ·have hn := ack_n ok a hh
  have hb := ok.ba
  have e : oAck q a = ⟨if 0 < oAckN q a then q.l.drop (oAckN q a).toNat else q.l, if 0 < oAckN q a then q.base + oAckN q a else q.base, a, if q.cur < a then a else q.cur, q.sent, q.cl⟩ := by unfold oAck; rw [if_pos hh]
  rw [e]
  simp only
  split
  ·rw [h.here, List.drop_drop]
   congr 1; omega
  ·exact h.here
 ·have : oAck q a = q := by unfold oAck; rw [if_neg hh]
  rw [this]; exact h.here
end
open Go.RowKit Go.Lib
def oqC (q : OQ) (v : Value) : List Value := [v, .int .i64 q.base, .int .i64 q.una, .int .i64 q.cur, .int .i64 q.sent, .bool q.cl]
abbrev OAt (w : World) (g : Nat) (q : OQ) (v : Value) : Prop := At w g 106 (oqC q v)
def oqA (g : Nat) (q : OQ) (v : Value) : Res := atR g 106 (oqC q v)
def oqB (q : OQ) (v : Value) : Res := ownR 0 v q.l
def oqE (g : Nat) (v : Value) : Nat → Prop := fun k => k = g ∨ v.ownBlock = some k
section
variable (g : Nat) (q : OQ) (v : Value) (w : World) (hA : OAt w g q v)
include hA
set_option maxRecDepth 100000 in
theorem Una_any : Calls Try.prog 63 #[.pointer (some ⟨g, 0, none⟩)] w fun e w' => e = .returned (.int .i64 q.una) ∧ w = w' := by
 have hc := hA.cell
 simp only [oqC] at hc
 go_enter Try.func63, Try.ntmps63
 go_wp2_with fail
 go_ret
 exact ⟨rfl, rfl⟩
set_option maxRecDepth 100000 in
theorem Cur_any : Calls Try.prog 41 #[.pointer (some ⟨g, 0, none⟩)] w fun e w' => e = .returned (.int .i64 q.cur) ∧ w = w' := by
 have hc := hA.cell
 simp only [oqC] at hc
 go_enter Try.func41, Try.ntmps41
 go_wp2_with fail
 go_ret
 exact ⟨rfl, rfl⟩
set_option maxRecDepth 100000 in
theorem Sent_any : Calls Try.prog 39 #[.pointer (some ⟨g, 0, none⟩)] w fun e w' => e = .returned (.int .i64 q.sent) ∧ w = w' := by
 have hc := hA.cell
 simp only [oqC] at hc
 go_enter Try.func39, Try.ntmps39
 go_wp2_with fail
 go_ret
 exact ⟨rfl, rfl⟩
variable (hV : OwnB w 0 v q.l) (hl : q.l.length ≤ 2048) (hb : 1 ≤ q.base) (hb2 : q.base ≤ 4611686018427387904)
include hV hl
set_option maxRecDepth 100000 in
theorem Room_any : Calls Try.prog 56 #[.pointer (some ⟨g, 0, none⟩)] w fun e w' => e = .returned (.int .i64 (oRoom q)) ∧ w = w' := by
 obtain ⟨A, c, rfl⟩ := hV.form
 have hc := hA.cell
 simp only [oqC] at hc
 have hr : oRoom q = if q.cl then 0 else 2048 - (q.l.length : Int) := rfl
 clear hA hV
 cases hcl : q.cl
 all_goals
  rw [hcl] at hr hc
  have HR := Lib.hid hr
  clear hr
  go_enter Try.func56, Try.ntmps56
  go_wp2_with fail
  go_ret
  exact ⟨by rw [HR.out]; rfl, rfl⟩
include hb hb2
set_option maxRecDepth 100000 in
theorem fin_any : Calls Try.prog 83 #[.pointer (some ⟨g, 0, none⟩)] w fun e w' => e = .returned (.int .i64 (oFin q)) ∧ Below w.heap.size w w' := by
 obtain ⟨A, c, rfl⟩ := hV.form
 have hc := hA.cell
 have hlt := hA.lt
 simp only [oqC] at hc
 clear hA hV
 go_enter Try.func83, Try.ntmps83
 go_wp2_with fail
 (try go_quiet (fail))
 (try go_wp2_with fail)
 go_ret
 exact ⟨rfl, by repeat' (first | with_reducible exact Below.refl _ _ | with_reducible assumption | with_reducible refine Below.drew ?_ | with_reducible refine below_dn ?_ _ | with_reducible refine below_ca ?_ _ | with_reducible refine Below.setCell ?_ ?_ _ | (refine below_c ?_ (by with_reducible assumption)) | (simp <;> omega) | omega)⟩
set_option maxRecDepth 100000 in
theorem End_any : Calls Try.prog 68 #[.pointer (some ⟨g, 0, none⟩)] w fun e w' => e = .returned (.int .i64 (qEnd q)) ∧ Below w.heap.size w w' := by
 have hc := hA.cell
 simp only [oqC] at hc
 have hr : qEnd q = if q.cl then oFin q + 1 else oFin q := rfl
 have HF := Lib.hid (fin_any g q v w hA hV hl hb hb2)
 have hf : oFin q = q.base + q.l.length := rfl
 have hf1 : oFin q ≤ 4611686018427390000 := by omega
 have hf2 : 1 ≤ oFin q := by omega
 clear hA hV hf
 cases hcl : q.cl
 all_goals
  rw [hcl] at hr hc
  have HR := Lib.hid hr
  clear hr
  go_enter Try.func68, Try.ntmps68
  go_wp2_with (go_at_call 83; go_must (refine HF.out.mono ?_; rintro e W ⟨rfl, hB⟩))
  go_ret
  exact ⟨by rw [HR.out]; rfl, hB⟩
end
theorem newq_any (w : World) : Calls Try.prog 60 #[] w fun e w' => ∃ g, e = .returned (.pointer (some ⟨g, 0, none⟩)) ∧ Mem w w' [oqA g newOQ (.slice none 0 0), oqB newOQ (.slice none 0 0)] := by
 have hM := Mem.nil w
 go_enter Try.func60, Try.ntmps60
 go_wp2_with (first
  | go_skip
  | ((with_reducible refine at_box_ ?_); refine wpList_box_mem rfl _ _ rfl _ rfl hM ?_; clear hM; intro gb W hM; first | (simp only [List.nil_append] at hM) | (simp only [List.cons_append, List.nil_append] at hM))
  | ((with_reducible refine at_load_ ?_); refine at_wanted_ (by rfl) ?_; refine lM 0 hM rfl rfl rfl (by first | rfl | assumption) ?_)
  | ((with_reducible refine at_store_ ?_); refine sM 0 hM rfl rfl rfl ?_; clear hM; intro W hM; simp only [zF, zE] at hM))
 go_ret
 exact ⟨_, rfl, hM.ownNil 0⟩
set_option maxRecDepth 100000 in
theorem length_any (p : KPiece) (w : World) (hs : p.b.size ≤ 1000000) : Calls Try.prog 65 #[.agg (cPiece p).toArray] w fun e w' => e = .returned (.int .i64 (oLen p)) ∧ Below w.heap.size w w' := by
 have hr : oLen p = p.b.size + (if p.syn then 1 else 0) + (if p.fin then 1 else 0) := rfl
 obtain ⟨pa, ps, pf, pb⟩ := p
 simp only at hr hs
 cases ps
 all_goals
  cases pf
  all_goals
   have HR := Lib.hid hr
   clear hr
   have hM := Mem.nil w
   go_enter Try.func65, Try.ntmps65
   go_wp2_with (first
    | go_skip
    | ((with_reducible refine at_box_ ?_); refine wpList_box_mem rfl _ _ rfl _ rfl hM ?_; clear hM; intro gb W hM; first | (simp only [List.nil_append] at hM) | (simp only [List.cons_append, List.nil_append] at hM))
    | ((with_reducible refine at_load_ ?_); refine at_wanted_ (by rfl) ?_; refine lM 0 hM rfl rfl rfl (by first | rfl | assumption) ?_)
    | ((with_reducible refine at_store_ ?_); refine sM 0 hM rfl rfl rfl ?_; clear hM; intro W hM; simp only [zF, zE] at hM))
   go_ret
   exact ⟨by rw [HR.out]; simp <;> (try rfl), hM.b⟩
end Go.Proofs.Ytfpifahkpkjfgaa
