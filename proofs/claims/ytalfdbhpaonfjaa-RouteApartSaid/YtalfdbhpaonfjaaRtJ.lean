/- route: laws of what a table says (plain). Written by my genrtw.py. -/
import Derived.Test.YtalfdbhpaonfjaaRtI
namespace Go.Proofs.Ytalfdbhpaonfjaa
open Go.RowKit Go.Lib
set_option linter.unusedVariables false
set_option linter.unusedSimpArgs false


theorem rows_kept {w w' : World} {A : Option Addr} {n : Nat} {ks : List Kd} {css : Nat → List Value} (h : Rows_ w A n ks css) (hb : Below w.heap.size w w') : Rows_ w' A n ks css :=
  ⟨fun i hi => by
    obtain ⟨b, off, e, hr⟩ := h.at_ i hi
    exact ⟨b, off, e, range_kept hr hb⟩, h.ok⟩
theorem front_hand {E : Nat → Prop} {w W : World} (A : List Res) {B : List Res} (h : MemX E w W (A ++ B)) : MemX (blkE B) W W B := (h.perm List.perm_append_comm).hand
theorem front_back {E : Nat → Prop} {w W W' : World} (A : List Res) {B B' : List Res} (h : MemX E w W (A ++ B)) (h' : MemX (blkE B) W W' B') : MemX E w W' (A ++ B') := ((h.perm List.perm_append_comm).back h').perm List.perm_append_comm
theorem last_front {E : Nat → Prop} {w W : World} {l : List Res} {A : Res} (h : MemX E w W (l ++ [A])) : MemX E w W (A :: l) := h.perm List.perm_append_comm
/-- what an address has nothing of is of no matter for it -/
theorem bst_apart {G G' : List Bool → Option Int} {p k a : Nat} (hp : okP p k) (ha : a < 2 ^ 32) (hno : hasB p k a = false) (x : Option Int) (h : ∀ q, G' q = if q = path p k then x else G q) : bst G' a 33 = bst G a 33 := by
  refine bst_congr (fun i hi => ?_) 33 (Nat.le_refl _)
  rw [h]
  rw [if_neg]
  intro e
  have hl := congrArg List.length e
  rw [path_len, path_len] at hl
  subst hl
  have := (has_path hp ha).2 e
  rw [hno] at this
  cases this
theorem add_apart {t t' : RT} {m m' p a : Nat} {n via e : Int} (h : AddR t m p n via e t' m') (ha : a < 2 ^ 32) (hno : hasB p n a = false) : bst t'.get a 33 = bst t.get a 33 := by
  rcases h with ⟨_, _, rfl, _⟩ | ⟨k, rfl, hok, ⟨_, _, rfl, _⟩ | ⟨_, _, _, rfl, _⟩ | ⟨_, _, _, _, hq⟩⟩
  · rfl
  · rfl
  · rfl
  · exact bst_apart hok ha hno _ hq

end Go.Proofs.Ytalfdbhpaonfjaa
