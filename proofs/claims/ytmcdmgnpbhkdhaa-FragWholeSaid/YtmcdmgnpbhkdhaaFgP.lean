/- frag: what is being put together, in memory; put, done (plain). -/
import Derived.Test.YtmcdmgnpbhkdhaaIpC
import Derived.Test.YtmcdmgnpbhkdhaaFnL
import Derived.Test.YtmcdmgnpbhkdhaaHand
namespace Go.Proofs.Ytmcdmgnpbhkdhaa
open Go.RowKit
set_option linter.unusedVariables false
set_option linter.unusedSimpArgs false

structure FW where
  b : Nat → Int
  h : Nat → Bool
  en : Int
  la : Int
  fi : Pk
  kn : Bool
  age : Int
def fgT (f : FW) : List Value := .int .i64 f.en :: .int .i64 f.la :: (pkC f.fi ++ [.bool f.kn, .int .i64 f.age])
def fgX (b : Nat → Int) (h : Nat → Bool) (T : List Value) : List Value := fnL 4000 (fun k => Value.int .u8 (b k)) ++ (fnL 4000 (fun k => Value.bool (h k)) ++ T)
theorem fgX_set (b : Nat → Int) (h : Nat → Bool) (T : List Value) (i : Nat) (v : Value) : (fgX b h T).set (8000 + i) v = fgX b h (T.set i v) := by
  unfold fgX
  rw [List.set_append_right _ _ (by rw [fnL_len]; omega), fnL_len, List.set_append_right _ _ (by rw [fnL_len]; omega), fnL_len, show 8000 + i - 4000 - 4000 = i by omega]
theorem fgX_drop (b : Nat → Int) (h : Nat → Bool) (T : List Value) (i : Nat) : (fgX b h T).drop (8000 + i) = T.drop i := by
  unfold fgX
  rw [List.drop_append, fnL_len, List.drop_of_length_le (by rw [fnL_len]; omega), List.nil_append, List.drop_append, fnL_len, List.drop_of_length_le (by rw [fnL_len]; omega), List.nil_append, show 8000 + i - 4000 - 4000 = i by omega]
def fgC (f : FW) : List Value := fgX f.b f.h (fgT f)
theorem fgC_b (f : FW) (k : Nat) (h : k < 4000) : (fgC f)[k]? = some (.int .u8 (f.b k)) := by
  unfold fgC fgX
  rw [List.getElem?_append_left (by rw [fnL_len]; exact h), fnL_get _ _ _ h]
theorem fgC_h (f : FW) (k : Nat) (h : k < 4000) : (fgC f)[4000 + k]? = some (.bool (f.h k)) := by
  unfold fgC fgX
  rw [List.getElem?_append_right (by rw [fnL_len]; omega), fnL_len, List.getElem?_append_left (by rw [fnL_len]; omega), show 4000 + k - 4000 = k by omega, fnL_get _ _ _ h]
theorem fgC_t (f : FW) (k : Nat) : (fgC f)[8000 + k]? = (fgT f)[k]? := by
  unfold fgC fgX
  rw [List.getElem?_append_right (by rw [fnL_len]; omega), fnL_len, List.getElem?_append_right (by rw [fnL_len]; omega), fnL_len, show 8000 + k - 4000 - 4000 = k by omega]
theorem fgC_len (f : FW) : (fgC f).length = 8013 := by
  unfold fgC fgX
  rw [List.length_append, List.length_append, fnL_len, fnL_len]; rfl
theorem fgC_congr (f g : FW) (h1 : ∀ k, k < 4000 → f.b k = g.b k) (h2 : ∀ k, k < 4000 → f.h k = g.h k) (h3 : fgT f = fgT g) : fgC f = fgC g := by
  unfold fgC fgX
  rw [fnL_congr 4000 (fun k => Value.int .u8 (f.b k)) (fun k => Value.int .u8 (g.b k)) (fun k hk => by rw [h1 k hk]), fnL_congr 4000 (fun k => Value.bool (f.h k)) (fun k => Value.bool (g.h k)) (fun k hk => by rw [h2 k hk]), h3]
theorem fgC_setb (f : FW) (K : Nat) (x : Int) (h : K < 4000) : (fgC f).set K (.int .u8 x) = fgC { f with b := fun k => if k = K then x else f.b k } := by
  unfold fgC fgX
  rw [List.set_append_left _ _ (by rw [fnL_len]; exact h), fnL_set]
  simp only
  congr 1
  exact fnL_congr _ _ _ (fun k _ => by split <;> rfl)
theorem fgC_seth (f : FW) (K : Nat) (x : Bool) (h : K < 4000) : (fgC f).set (4000 + K) (.bool x) = fgC { f with h := fun k => if k = K then x else f.h k } := by
  unfold fgC fgX
  rw [List.set_append_right _ _ (by rw [fnL_len]; omega), fnL_len, show 4000 + K - 4000 = K by omega, List.set_append_left _ _ (by rw [fnL_len]; exact h), fnL_set]
  simp only
  congr 2
  exact fnL_congr _ _ _ (fun k _ => by split <;> rfl)
theorem fgC_sett (f : FW) (i : Nat) (v : Value) : (fgC f).set (8000 + i) v = fgX f.b f.h ((fgT f).set i v) := fgX_set _ _ _ _ _
theorem fgC_seten (f : FW) (x : Int) : (fgC f).set 8000 (.int .i64 x) = fgC { f with en := x } := fgC_sett f 0 _
theorem fgC_setla (f : FW) (x : Int) : (fgC f).set 8001 (.int .i64 x) = fgC { f with la := x } := fgC_sett f 1 _
theorem fgC_setkn (f : FW) (x : Bool) : (fgC f).set 8011 (.bool x) = fgC { f with kn := x } := fgC_sett f 11 _
theorem fgC_setage (f : FW) (x : Int) : (fgC f).set 8012 (.int .i64 x) = fgC { f with age := x } := fgC_sett f 12 _
/-- the nine cells of the first one -/
theorem fgC_first (f : FW) : ((fgC f).drop 8002).take (pkC f.fi).length = pkC f.fi := by
  unfold fgC
  rw [fgX_drop f.b f.h (fgT f) 2]; rfl
/-- cells written one behind the other -/
def setL : List Value → Nat → List Value → List Value
  | cs, _, [] => cs
  | cs, i, v :: vs => setL (cs.set i v) (i + 1) vs
theorem setL_len : ∀ (vs : List Value) (cs : List Value) (i : Nat), (setL cs i vs).length = cs.length
  | [], cs, i => rfl
  | v :: vs, cs, i => by rw [setL, setL_len vs, List.length_set]
theorem At.setL_ {t : TypeId} {g : Nat} : ∀ (vs : List Value) (w : World) (cs : List Value) (i : Nat), At w g t cs → At (w.setCells g i vs) g t (setL cs i vs)
  | [], w, cs, i, h => h
  | v :: vs, w, cs, i, h => At.setL_ vs _ _ (i + 1) (h.set_ i v)
theorem fgX_setL (b : Nat → Int) (h : Nat → Bool) : ∀ (vs T : List Value) (i : Nat), setL (fgX b h T) (8000 + i) vs = fgX b h (setL T i vs)
  | [], T, i => rfl
  | v :: vs, T, i => by rw [setL, setL, fgX_set]; exact fgX_setL b h vs _ (i + 1)
theorem fgC_setfi (f : FW) (p : Pk) : setL (fgC f) 8002 (pkC p) = fgC { f with fi := p } := by
  unfold fgC
  rw [fgX_setL f.b f.h (pkC p) (fgT f) 2]; rfl
attribute [irreducible] fgC
section
variable {E : Nat → Prop} {P : Program} {ops : Array Oper} {rest : List Oper} {op : Oper} {a : Act} {w0 w : World} {Q : Exit → Act → World → Prop} {l : List Res}
/-- a struct written into a greater one -/
theorem wpList_stores_mem (hgd : op.guard = none) (T : TypeId) (x y : Operand) (ho : op.op = .store T x y) (k : Nat) (g i : Nat) (t : TypeId) (cs vs : List Value) (hM : MemX E w0 w l) (hk : l[k]? = some (atR g t cs)) (hx : a.eval x = .pointer (some ⟨g, i, none⟩))
    (hy : a.eval y = .agg vs.toArray) (hi : (P.info? T).map (·.size) = some vs.length) (h1 : vs.all (·.oneCell') = true) (hl : i + vs.length ≤ cs.length)
    (h : ∀ W, MemX E w0 W (l.set k (atR g t (setL cs i vs))) → wpList P ops Q rest (a.put op.dst undef) W) : wpList P ops Q (op :: rest) a w := by
  have hA := hM.at_ k hk
  have ht : w.there g i vs.toArray.size := fun j hj => by
    rw [List.size_toArray] at hj
    exact ⟨by rw [hA.cell, List.getElem?_eq_getElem (by omega)]; rfl, hA.free _⟩
  refine wpList_store_mid hgd T x y ho g i vs.toArray hx hy ht (by rw [List.size_toArray]; exact hi) (all_oneCell_toArray (fun v hv => List.all_eq_true.1 h1 v hv)) (h _ ?_)
  refine hM.atPut k hk (by simpa using setCells_grownBy g vs i w) ?_
  simpa using hA.setL_ vs w cs i
end
end Go.Proofs.Ytmcdmgnpbhkdhaa
