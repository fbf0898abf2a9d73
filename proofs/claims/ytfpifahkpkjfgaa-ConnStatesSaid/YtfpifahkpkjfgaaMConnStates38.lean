/- What ConnStates needs, part 38: CnHa, StepM, Step, Sub, CnHb. -/
import Derived.Deep.CutBlock
import Derived.Orders
import Derived.Test.YtfpifahkpkjfgaaMConnStates1
import Derived.Test.YtfpifahkpkjfgaaMConnStates2
import Derived.Test.YtfpifahkpkjfgaaMConnStates5
import Derived.Test.YtfpifahkpkjfgaaMConnStates6
import Derived.Test.YtfpifahkpkjfgaaMConnStates37
/- conn: a thing that is done to a connection. Written by my gencn.py. -/
namespace Go.Proofs.Ytfpifahkpkjfgaa
open Go.RowKit Go.Lib
set_option linter.unusedVariables false
set_option linter.unusedSimpArgs false


set_option linter.unusedSectionVars false
set_option maxRecDepth 100000
set_option maxRecDepth 100000 in
set_option maxHeartbeats 8000000 in
theorem tick_no {E : Nat → Prop} {w0 : World} (gc gi gw : Nat) (c : KCn) (k : KPt) (m : List Res) (w : World) (hM0 : MemX E w0 w (cnL gc gi gw c k m)) (hk : KOk k gi gw c.h) (n : Int) (hn : n < 0 ∨ 1099511627776 - c.now < n) (hc : 0 ≤ c.now ∧ c.now ≤ 1099511627776) :
    Calls Try.prog 18 #[.pointer (some ⟨gc, 0, none⟩), .int .i64 n] w fun e w' => e = .returned (.int .i64 1) ∧ MemX E w0 w' (cnL gc gi gw c k m) := by
  unfold cnL at hM0
  have hM := hM0
  clear hM0 hk
  obtain ⟨hc1, hc2⟩ := hc
  go_enter Try.func18, Try.ntmps18
  by_cases h : n < 0
  · have t1 : decide (n < 0) = true := decide_eq_true h
    go_wp2_with (first | go_skip | ((with_reducible refine at_load_ ?_); refine at_wanted_ (by rfl) ?_; refine wpList_loadf_mem (by go_simp) _ _ rfl (by kernel_rfl) 2 _ _ _ _ _ hM rfl rfl (by first  | rfl) ?_))
    go_ret
    exact ⟨rfl, hM⟩
  · have t1 : decide (n < 0) = false := decide_eq_false h
    have h2 : 1099511627776 - c.now < n := hn.resolve_left h
    have t2 : decide (1099511627776 - c.now < n) = true := decide_eq_true h2
    go_wp2_with (first | go_skip | ((with_reducible refine at_load_ ?_); refine at_wanted_ (by rfl) ?_; refine wpList_loadf_mem (by go_simp) _ _ rfl (by kernel_rfl) 2 _ _ _ _ _ hM rfl rfl (by first  | rfl) ?_))
    go_ret
    exact ⟨rfl, hM⟩
theorem cn_s1 {E : Nat → Prop} {w W : World} {S : Res} {gc gi gw : Nat} {c : KCn} {k : KPt} (h : MemX E w W (S :: cnL gc gi gw c k [])) : MemX E w W (cnL gc gi gw c k [S]) := by
  unfold cnL at *
  rw [List.append_nil] at h
  have h2 := (show MemX E w W ([S] ++ (oqA k.go c.o k.vo :: oqB c.o k.vo :: cnA gc c k :: tmR k.gt c.tm :: rsR k.vr c.rs :: hL gi gw c.h)) from h).perm List.perm_append_comm
  exact h2
theorem cn_s2 {E : Nat → Prop} {w W : World} {S : Res} {gc gi gw : Nat} {c : KCn} {k : KPt} (h : MemX E w W (cnL gc gi gw c k [S])) : MemX E w W (S :: cnL gc gi gw c k []) := by
  unfold cnL at *
  rw [List.append_nil]
  have h2 := (show MemX E w W ((oqA k.go c.o k.vo :: oqB c.o k.vo :: cnA gc c k :: tmR k.gt c.tm :: rsR k.vr c.rs :: hL gi gw c.h) ++ [S]) from h).perm List.perm_append_comm
  exact h2
def CsR (c : KCn) (j : Int) (gi gw : Nat) (c' : KCn) (k' : KPt) : Prop := CI c' (j + 1) ∧ KOk k' gi gw c'.h ∧ fol c.st c'.st ∧ (c.st = 0 → c'.why = c.why)
section
variable {E : Nat → Prop} {w0 : World} (gc gi gw : Nat) (c : KCn) (k : KPt) (S : Res) (j : Int) (w : World) (hM : MemX E w0 w (S :: cnL gc gi gw c k [])) (hk : KOk k gi gw c.h) (hc : CI c j) (hj : j ≤ 999999999990)
include hM hk hc hj
theorem cs_tick (n : Int) (h1 : -9223372036854775808 ≤ n) (h2 : n ≤ 9223372036854775807) :
    Calls Try.prog 18 #[.pointer (some ⟨gc, 0, none⟩), .int .i64 n] w fun e w' => ∃ x gi' gw' c' k', e = .returned (.int .i64 x) ∧ MemX E w0 w' (S :: cnL gc gi' gw' c' k' []) ∧ CsR c j gi' gw' c' k' := by
  by_cases h : n < 0 ∨ 1099511627776 - c.now < n
  · exact (tick_no gc gi gw c k [S] w (cn_s1 hM) hk n h hc.n).mono fun e w' ⟨he, h2⟩ => ⟨1, gi, gw, c, k, he, cn_s2 h2, hc.mono (by omega), hk, .inl rfl, fun _ => rfl⟩
  · have h3 := hc.tick n (by omega) (by omega)
    exact (tick_all gc gi gw c k [S] w n (cn_s1 hM) hk (hc.cok (by omega)) (by omega) (by omega)).mono fun e w' ⟨he, h4, h5⟩ => ⟨0, gi, gw, cTick c n, k, he, cn_s2 h4, h3.1.mono (by omega), h5, h3.2.1, h3.2.2⟩
theorem cs_write (s : ByteArray) (hs : s.size ≤ 140737488351232) :
    Calls Try.prog 23 #[.pointer (some ⟨gc, 0, none⟩), .string s] w fun e w' => ∃ x gi' gw' c' k', e = .returned x ∧ MemX E w0 w' (S :: cnL gc gi' gw' c' k' []) ∧ CsR c j gi' gw' c' k' := by
  have h3 := hc.write s
  have hb := hc.bd (by omega)
  exact (cWrite_any gc gi gw c k [S] w (cn_s1 hM) hk s hc.o (by omega) hs).mono fun e w' ⟨k', he, h4, h5⟩ => ⟨_, gi, gw, (cWrite c s).1, k', he, cn_s2 h4, h3.1, h5, .inl h3.2.1.symm, fun _ => h3.2.2⟩
theorem cs_close :
    Calls Try.prog 29 #[.pointer (some ⟨gc, 0, none⟩)] w fun e w' => ∃ gi' gw' c' k', e = .returned (.int .i64 (cClose c).2) ∧ MemX E w0 w' (S :: cnL gc gi' gw' c' k' []) ∧ CsR c j gi' gw' c' k' := by
  have h3 := hc.close
  have hb := hc.bd (by omega)
  exact (cClose_any gc gi gw c k [S] w (cn_s1 hM) hk hc.o (by omega)).mono fun e w' ⟨k', he, h4, h5⟩ => ⟨gi, gw, (cClose c).1, k', he, cn_s2 h4, h3.1.mono (by omega), h5, h3.2.1, h3.2.2.1⟩
theorem cs_out :
    Calls Try.prog 15 #[.pointer (some ⟨gc, 0, none⟩)] w fun e w' => ∃ x gi' gw' c' k', e = .returned x ∧ MemX E w0 w' (S :: cnL gc gi' gw' c' k' []) ∧ CsR c j gi' gw' c' k' ∧ c'.rs = [] := by
  have h3 := hc.out
  have hb := hc.bd (by omega)
  have hr := hc.rsl
  exact (out_all gc gi gw c k [S] w (cn_s1 hM) hk (hc.cok (by omega)) (by omega) hc.rsu).mono fun e w' ⟨v, k', he, h4, h5⟩ => ⟨v, gi, gw, (cOut c).1, k', he, cn_s2 (show MemX E w0 w' ([_] ++ _) from h4).drop_, ⟨h3.1.mono (by omega), h5, .inl h3.2.1.symm, fun _ => h3.2.2.1⟩, h3.2.2.2⟩
theorem cs_in (g : KSeg) (hg : SegOk g) :
    Calls Try.prog 19 #[.pointer (some ⟨gc, 0, none⟩), .agg (cSeg g).toArray] w fun e w' => ∃ gi' gw' c' k', e = .returned (.int .i64 (cInE c g)) ∧ MemX E w0 w' (S :: cnL gc gi' gw' c' k' []) ∧ CsR c j gi' gw' c' k' := by
  have h3 := hc.in_ (by omega) g hg
  exact (cIn_any gc gi gw c k [S] w (cn_s1 hM) hk (hc.cin (by omega)) g hg).mono fun e w' ⟨gi', gw', k', he, h4, h5⟩ => ⟨gi', gw', cIn c g, k', he, cn_s2 h4, h3.1, h5, h3.2.1, h3.2.2.1⟩
end
end Go.Proofs.Ytfpifahkpkjfgaa
/- A round's own variable, a whole struct copied out of a row that came in, as a thing of Mem. -/
namespace Go.Proofs.Ytfpifahkpkjfgaa
open Go.RowKit
set_option linter.unusedVariables false

theorem MemX.boxed {E : Nat → Prop} {w0 w : World} {l : List Res} (hM : MemX E w0 w l) (C : Array Value) (t : TypeId) (cs : List Value) (h : C.size = cs.length) :
    MemX E w0 ((w.alloc (.cells C t)).setCells w.heap.size 0 cs) (l ++ [atR w.heap.size t cs]) := by
  have hb := Go.Proofs.Ytfpifahkpkjfgaa.boxed w C t cs (by omega)
  have hA : At (w.alloc (.cells C t)) w.heap.size t C.toList := by
    have := At.new_ w t C.toList
    rwa [Array.toArray_toList] at this
  exact hM.push hb.1 (atR_stab _ _ _) (hA.fill (by rw [Array.length_toList]; exact h)) (fun g hg => by
    have e : w.heap.size = g := Option.some.inj hg
    subst e
    exact ⟨Nat.le_refl _, hb.2.2⟩)
theorem MemX.range {E : Nat → Prop} {w0 w : World} {l : List Res} {g : Nat} {t : TypeId} {cs : List Value} (hM : MemX E w0 w l) (k : Nat) (hk : l[k]? = some (atR g t cs)) : w.rangeAt g 0 cs := by
  intro j v hv
  rw [Nat.zero_add, hM.cells k hk j]
  exact hv
end Go.Proofs.Ytfpifahkpkjfgaa
/- The contract of Step's Of. -/
namespace Go.Proofs.Ytfpifahkpkjfgaa
open Go.RowKit
set_option linter.unusedVariables false

set_option maxHeartbeats 400000 in
theorem Of_any (cs : List Value) (k n : Int) (w : World) (h0 : cs[0]? = some (.int .i64 k)) (hk : -9223372036854775808 ≤ k) (hk' : k ≤ 9223372036854775807) (hn : 0 < n) (hn' : n ≤ 9223372036854775807) :
    Calls Try.prog 28 #[.agg cs.toArray, .int .i64 n] w fun e w' => e = .returned (.int .i64 (k % n)) ∧ Below w.heap.size w w' := by
  go_enter Try.func28, Try.ntmps28
  go_wp2_with (first
    | (go_at_call 13; go_must (refine (Rest_any _ _ _ (by omega) (by omega) (by omega) (by omega)).mono ?_; rintro e w1 ⟨rfl, rfl⟩)))
  go_ret
  exact ⟨rfl, below_ca (Below.refl _ _) _⟩

theorem step_info : (Try.prog.info? 70).map (·.size) = some 45 := by kernel_rfl
theorem step_len {cs : List Value} (h : okAll ksStep cs) : cs.length = 45 := okAll_len h
theorem step_int {cs : List Value} (h : okAll ksStep cs) (i : Nat) (hi : ksStep[i]? = some (.int .i64)) : ∃ n, cs[i]? = some (.int .i64 n) ∧ -9223372036854775808 ≤ n ∧ n ≤ 9223372036854775807 := by
  obtain ⟨v, hv, n, rfl, h1, h2⟩ := okAll_at i h hi
  exact ⟨n, hv, h1, h2⟩
theorem step_str {cs : List Value} (h : okAll ksStep cs) (i : Nat) (hi : ksStep[i]? = some .str) : ∃ s : ByteArray, cs[i]? = some (.string s) ∧ s.size ≤ 140737488351232 := by
  obtain ⟨v, hv, s, rfl, h1⟩ := okAll_at i h hi
  exact ⟨s, hv, h1⟩
theorem step_bool {cs : List Value} (h : okAll ksStep cs) (i : Nat) (hi : ksStep[i]? = some .bool) : ∃ b : Bool, cs[i]? = some (.bool b) := by
  obtain ⟨v, hv, b, rfl⟩ := okAll_at i h hi
  exact ⟨b, hv⟩
end Go.Proofs.Ytfpifahkpkjfgaa
/- A struct inside a struct, read. -/
namespace Go.Proofs.Ytfpifahkpkjfgaa
open Go.RowKit
set_option linter.unusedVariables false

theorem At.sub {w : World} {g i : Nat} {t : TypeId} {cs sub : List Value} (h : At w g t cs) (hs : (cs.drop i).take sub.length = sub) : w.rangeAt g i sub := by
  intro j u hj
  rw [h.cell]
  rw [← hs, List.getElem?_take] at hj
  split at hj
  · rw [List.getElem?_drop] at hj; exact hj
  · cases hj
theorem At.range {w : World} {g : Nat} {t : TypeId} {cs : List Value} (h : At w g t cs) : w.rangeAt g 0 cs := h.sub (by simp)
/-- a struct that lies in a thing of Mem, from cell i on -/
theorem wpList_loads_mem {E : Nat → Prop} {P : Program} {ops : Array Oper} {rest : List Oper} {op : Oper} {a : Act} {w0 w : World} {Q : Exit → Act → World → Prop} {l : List Res} (hgd : Region.wanted op (yielded ops a.tmps) = true) (T : TypeId) (x : Operand) (ho : op.op = .load T x) (k : Nat) (g i : Nat) (t : TypeId) (cs sub : List Value) (hM : MemX E w0 w l) (hk : l[k]? = some (atR g t cs)) (hx : a.eval x = .pointer (some ⟨g, i, none⟩))
    (hs : (cs.drop i).take sub.length = sub) (d : TypeDesc) (hu : P.underlying T = some d) (hd : d.isRow = true) (hi : (P.info? T).map (·.size) = some sub.length)
    (h : wpList P ops Q rest (a.put op.dst (.agg sub.toArray)) w) : wpList P ops Q (op :: rest) a w :=
  wpList_step fun K hK => by
    rw [if_pos hgd]
    exact wp_load_mid T x ho g i hx sub d ((hM.at_ k hk).sub hs) hu hd hi (hK _ _ h)
/-- two structs compared, in a region that draws its order -/
theorem yields_ne {P : Program} {ops : Array Oper} {o : Oper} {a : Act} (hw : Region.wanted o (yielded ops a.tmps) = true) (T : TypeId) (x y : Operand) (R : TypeId) (ho : o.op = .binOp .neq T x y R) (X Y : Array Value) (hx : a.eval x = .agg X) (hy : a.eval y = .agg Y)
    (hg : P.eqGuardType P.depth T = false) (b : Bool) (heq : ∀ W, (Op.equalIn 10000 T (.agg X) (.agg Y)).run P W = .ok b W) : Yields P ops o (.bool !b) a :=
  .inl ⟨hw, fun w => by
    unfold execOp
    simp only [ho, hx, hy, Sem.run_bind, run_eqGuard_agg (hm := hg), run_neq_struct, heq, Sem.run_pure, Result.andThen_ok]⟩
theorem yields_eq {P : Program} {ops : Array Oper} {o : Oper} {a : Act} (hw : Region.wanted o (yielded ops a.tmps) = true) (T : TypeId) (x y : Operand) (R : TypeId) (ho : o.op = .binOp .eql T x y R) (X Y : Array Value) (hx : a.eval x = .agg X) (hy : a.eval y = .agg Y)
    (hg : P.eqGuardType P.depth T = false) (b : Bool) (heq : ∀ W, (Op.equalIn 10000 T (.agg X) (.agg Y)).run P W = .ok b W) : Yields P ops o (.bool b) a :=
  .inl ⟨hw, fun w => by
    unfold execOp
    simp only [ho, hx, hy, Sem.run_bind, run_eqGuard_agg (hm := hg), run_eql_struct, heq, Sem.run_pure, Result.andThen_ok]⟩
end Go.Proofs.Ytfpifahkpkjfgaa
/- The walk of ConnStates: it returns true. Written by my gencm.py. -/
namespace Go.Proofs.Ytfpifahkpkjfgaa
open Go.RowKit Go.Lib
set_option linter.unusedVariables false
set_option linter.unusedSimpArgs false
set_option maxRecDepth 100000

theorem part_of {cs f : List Value} {o n : Nat} (hl : f.length = n) (h : ∀ i v, f[i]? = some v → cs[o + i]? = some v) : (cs.drop o).take n = f := by
  refine List.ext_getElem? fun i => ?_
  by_cases hi : i < n
  · rw [List.getElem?_take_of_lt hi, List.getElem?_drop]
    have h2 : f[i]? = some (f[i]'(by omega)) := List.getElem?_eq_getElem (by omega)
    rw [h2, h _ _ h2]
  · rw [List.getElem?_eq_none (by rw [List.length_take]; omega), List.getElem?_eq_none (by omega)]
theorem step_seg {cs : List Value} (h : okAll ksStep cs) : ∃ g : KSeg, (cs.drop 16).take 13 = cSeg g ∧ SegOk g := by
  obtain ⟨_, e0, a0, rfl, p0, q0⟩ := okAll_at 16 h rfl
  obtain ⟨_, e1, a1, rfl, p1, q1⟩ := okAll_at 17 h rfl
  obtain ⟨_, e2, a2, rfl, p2, q2⟩ := okAll_at 18 h rfl
  obtain ⟨_, e3, a3, rfl, p3, q3⟩ := okAll_at 19 h rfl
  obtain ⟨_, e4, a4, rfl, p4, q4⟩ := okAll_at 20 h rfl
  obtain ⟨_, e5, a5, rfl, p5, q5⟩ := okAll_at 21 h rfl
  obtain ⟨_, e6, a6, rfl⟩ := okAll_at 22 h rfl
  obtain ⟨_, e7, a7, rfl⟩ := okAll_at 23 h rfl
  obtain ⟨_, e8, a8, rfl⟩ := okAll_at 24 h rfl
  obtain ⟨_, e9, a9, rfl⟩ := okAll_at 25 h rfl
  obtain ⟨_, e10, a10, rfl, p10, q10⟩ := okAll_at 26 h rfl
  obtain ⟨_, e11, a11, rfl, p11, q11⟩ := okAll_at 27 h rfl
  obtain ⟨_, e12, a12, rfl, p12⟩ := okAll_at 28 h rfl
  refine ⟨⟨a0, a1, a2, a3, a4, a5, a6, a7, a8, a9, a10, a11, a12⟩, part_of rfl ?_, ⟨⟨p0, q0⟩, ⟨p1, q1⟩, ⟨p2, q2⟩, ⟨p3, q3⟩, ⟨p4, q4⟩, ⟨p5, q5⟩, ⟨p10, q10⟩, ⟨p11, q11⟩, Nat.le_trans p12 (by decide)⟩⟩
  intro i v hv
  match i, hv with
  | 0, hv => rw [← hv]; exact e0
  | 1, hv => rw [← hv]; exact e1
  | 2, hv => rw [← hv]; exact e2
  | 3, hv => rw [← hv]; exact e3
  | 4, hv => rw [← hv]; exact e4
  | 5, hv => rw [← hv]; exact e5
  | 6, hv => rw [← hv]; exact e6
  | 7, hv => rw [← hv]; exact e7
  | 8, hv => rw [← hv]; exact e8
  | 9, hv => rw [← hv]; exact e9
  | 10, hv => rw [← hv]; exact e10
  | 11, hv => rw [← hv]; exact e11
  | 12, hv => rw [← hv]; exact e12
  | n + 13, hv => cases hv
set_option maxRecDepth 100000 in
set_option maxHeartbeats 8000000 in
theorem port_any (x : Int) (w : World) (h1 : -9223372036854775808 ≤ x) (h2 : x ≤ 9223372036854775807) : Calls Try.prog 33 #[.int .i64 x] w fun e w' => e = .returned (.bool (decide (1 ≤ x ∧ x ≤ 65535))) ∧ w = w' := by
  by_cases h : 0 < x
  · by_cases h' : x ≤ 65535
    · rw [decide_eq_true (⟨by omega, h'⟩ : 1 ≤ x ∧ x ≤ 65535)]
      exact cnisPort_ok x w (by omega) h'
    · rw [decide_eq_false (fun e : 1 ≤ x ∧ x ≤ 65535 => h' e.2)]
      have t1 : decide (0 < x) = true := decide_eq_true h
      have t2 : decide (x ≤ 65535) = false := decide_eq_false h'
      clear h h'
      go_enter Try.func33, Try.ntmps33
      go_wp2_with fail
      go_ret
      exact ⟨rfl, rfl⟩
  · rw [decide_eq_false (fun e : 1 ≤ x ∧ x ≤ 65535 => h (by omega))]
    have t1 : decide (0 < x) = false := decide_eq_false h
    clear h
    go_enter Try.func33, Try.ntmps33
    go_wp2_with fail
    go_ret
    exact ⟨rfl, rfl⟩
set_option maxRecDepth 100000 in
set_option maxHeartbeats 8000000 in
theorem mss_any (x : Int) (w : World) : Calls Try.prog 34 #[.int .i64 x] w fun e w' => e = .returned (.bool (decide (8 ≤ x ∧ x ≤ 1000))) ∧ w = w' := by
  by_cases h : 8 ≤ x
  · by_cases h' : x ≤ 1000
    · rw [decide_eq_true (⟨h, h'⟩ : 8 ≤ x ∧ x ≤ 1000)]
      exact cnisMss_ok x w h h'
    · rw [decide_eq_false (fun e : 8 ≤ x ∧ x ≤ 1000 => h' e.2)]
      have t1 : decide (8 ≤ x) = true := decide_eq_true h
      have t2 : decide (x ≤ 1000) = false := decide_eq_false h'
      clear h h'
      go_enter Try.func34, Try.ntmps34
      go_wp2_with fail
      go_ret
      exact ⟨rfl, rfl⟩
  · rw [decide_eq_false (fun e : 8 ≤ x ∧ x ≤ 1000 => h e.1)]
    have t1 : decide (8 ≤ x) = false := decide_eq_false h
    clear h
    go_enter Try.func34, Try.ntmps34
    go_wp2_with fail
    go_ret
    exact ⟨rfl, rfl⟩
set_option maxRecDepth 100000 in
set_option maxHeartbeats 8000000 in
theorem Dial_no (la lp ra rp iss mss : Int) (w : World) (hl : -9223372036854775808 ≤ lp ∧ lp ≤ 9223372036854775807) (hr : -9223372036854775808 ≤ rp ∧ rp ≤ 9223372036854775807) (h : ¬ ((1 ≤ lp ∧ lp ≤ 65535) ∧ (1 ≤ rp ∧ rp ≤ 65535) ∧ 8 ≤ mss ∧ mss ≤ 1000)) :
    Calls Try.prog 14 #[.agg #[.int .u32 la, .int .i64 lp], .agg #[.int .u32 ra, .int .i64 rp], .int .u32 iss, .int .i64 mss] w fun e w' => e = .returned (.tuple #[.pointer none, .int .i64 1]) ∧ Below w.heap.size w w' := by
  have hM := Mem.nil w
  obtain ⟨x, hx⟩ : ∃ z, z = decide (1 ≤ lp ∧ lp ≤ 65535) := ⟨_, rfl⟩
  obtain ⟨y, hy⟩ : ∃ z, z = decide (1 ≤ rp ∧ rp ≤ 65535) := ⟨_, rfl⟩
  obtain ⟨z, hz⟩ : ∃ z, z = decide (8 ≤ mss ∧ mss ≤ 1000) := ⟨_, rfl⟩
  have HA := Lib.hid (fun W => port_any lp W hl.1 hl.2)
  have HB := Lib.hid (fun W => port_any rp W hr.1 hr.2)
  have HC := Lib.hid (fun W => mss_any mss W)
  rw [← hx] at HA
  rw [← hy] at HB
  rw [← hz] at HC
  have hxyz : ¬ (x = true ∧ y = true ∧ z = true) := by
    rintro ⟨rfl, rfl, rfl⟩
    exact h ⟨of_decide_eq_true hx.symm, of_decide_eq_true hy.symm, of_decide_eq_true hz.symm⟩
  have HX := Lib.hid hxyz
  clear h hl hr hx hy hz hxyz
  go_enter Try.func14, Try.ntmps14
  cases x with
  | false =>
    go_wp2_with (first | go_skip | ((with_reducible refine at_box_ ?_); refine wpList_box_mem rfl _ _ rfl _ rfl hM ?_; clear hM; intro gb W hM; first | (simp only [List.nil_append] at hM) | (simp only [List.cons_append, List.nil_append] at hM)) | ((with_reducible refine at_load_ ?_); refine at_wanted_ (by rfl) ?_; first | (refine wpList_loadf_mem (by go_simp) _ _ rfl (by kernel_rfl) 0 _ _ _ _ _ hM rfl rfl rfl ?_) | (refine wpList_loadf_mem (by go_simp) _ _ rfl (by kernel_rfl) 1 _ _ _ _ _ hM rfl rfl rfl ?_)) | (go_at_call 33; first | ((with_reducible refine (HA.out _).mono ?_); rintro e W ⟨rfl, rfl⟩) | ((with_reducible refine (HB.out _).mono ?_); rintro e W ⟨rfl, rfl⟩)) | (go_at_call 34; refine (HC.out _).mono ?_; rintro e W ⟨rfl, rfl⟩))
    go_ret2
    exact ⟨rfl, hM.b⟩
  | true =>
    cases y with
    | false =>
      go_wp2_with (first | go_skip | ((with_reducible refine at_box_ ?_); refine wpList_box_mem rfl _ _ rfl _ rfl hM ?_; clear hM; intro gb W hM; first | (simp only [List.nil_append] at hM) | (simp only [List.cons_append, List.nil_append] at hM)) | ((with_reducible refine at_load_ ?_); refine at_wanted_ (by rfl) ?_; first | (refine wpList_loadf_mem (by go_simp) _ _ rfl (by kernel_rfl) 0 _ _ _ _ _ hM rfl rfl rfl ?_) | (refine wpList_loadf_mem (by go_simp) _ _ rfl (by kernel_rfl) 1 _ _ _ _ _ hM rfl rfl rfl ?_)) | (go_at_call 33; first | ((with_reducible refine (HA.out _).mono ?_); rintro e W ⟨rfl, rfl⟩) | ((with_reducible refine (HB.out _).mono ?_); rintro e W ⟨rfl, rfl⟩)) | (go_at_call 34; refine (HC.out _).mono ?_; rintro e W ⟨rfl, rfl⟩))
      go_ret2
      exact ⟨rfl, hM.b⟩
    | true =>
      cases z with
      | true => exact absurd ⟨rfl, rfl, rfl⟩ HX.out
      | false =>
        go_wp2_with (first | go_skip | ((with_reducible refine at_box_ ?_); refine wpList_box_mem rfl _ _ rfl _ rfl hM ?_; clear hM; intro gb W hM; first | (simp only [List.nil_append] at hM) | (simp only [List.cons_append, List.nil_append] at hM)) | ((with_reducible refine at_load_ ?_); refine at_wanted_ (by rfl) ?_; first | (refine wpList_loadf_mem (by go_simp) _ _ rfl (by kernel_rfl) 0 _ _ _ _ _ hM rfl rfl rfl ?_) | (refine wpList_loadf_mem (by go_simp) _ _ rfl (by kernel_rfl) 1 _ _ _ _ _ hM rfl rfl rfl ?_)) | (go_at_call 33; first | ((with_reducible refine (HA.out _).mono ?_); rintro e W ⟨rfl, rfl⟩) | ((with_reducible refine (HB.out _).mono ?_); rintro e W ⟨rfl, rfl⟩)) | (go_at_call 34; refine (HC.out _).mono ?_; rintro e W ⟨rfl, rfl⟩))
        go_ret2
        exact ⟨rfl, hM.b⟩
set_option maxRecDepth 100000 in
set_option maxHeartbeats 8000000 in
theorem follows_yes (a b : Int) (w : World) (h : fol a b) : Calls Try.prog 30 #[.int .i64 a, .int .i64 b] w fun e w' => e = .returned (.bool true) ∧ w = w' := by
  by_cases h1 : a = b
  · have t1 : (a == b) = true := by simpa using h1
    clear h
    subst h1
    go_enter Try.func30, Try.ntmps30
    go_wp2_with fail
    go_ret
    exact ⟨rfl, rfl⟩
  · by_cases h2 : b = 0
    · have t1 : (a == b) = false := by simpa using h1
      have t2 : (b == 0) = true := by simpa using h2
      clear h h1 h2
      go_enter Try.func30, Try.ntmps30
      go_wp2_with fail
      go_ret
      exact ⟨rfl, rfl⟩
    · unfold fol at h
      have h3 := (h.resolve_left h1).resolve_left h2
      clear h h1 h2
      rcases h3 with ⟨rfl, rfl | rfl⟩ | ⟨rfl, rfl | rfl | rfl | rfl | rfl | rfl⟩ | ⟨rfl, rfl | rfl⟩ | ⟨rfl, rfl | rfl | rfl⟩ | ⟨rfl, rfl⟩ | ⟨rfl, rfl⟩ | ⟨rfl, rfl⟩
      all_goals
        go_enter Try.func30, Try.ntmps30
        go_wp2_with fail
        go_ret
        exact ⟨rfl, rfl⟩
end Go.Proofs.Ytfpifahkpkjfgaa
