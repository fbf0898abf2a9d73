/- Small lemmas that all walks of this seat use. -/
import Derived.Test.YtlehknaiddidaaaRows
import Derived.WalkKit
import Derived.WalkSpells
import Derived.WalkLawsBesides
import Derived.Lib.Hide
import Derived.BigQuiet
import Derived.Deep.QuietTactic
import Derived.Deep.RegionHeld3
import Derived.Deep.DrawnRows
import Derived.Deep.LoopGhost
import Derived.Deep.Draws
import Derived.Below
namespace Go.Proofs.Ytlehknaiddidaaa
open Go.RowKit
set_option linter.unusedVariables false

theorem ret_int {k : IntKind} {a b : Int} (h : a = b) : Ending.returned (.int k a) = .returned (.int k b) := by rw [h]
theorem ret_bool {a b : Bool} (h : a = b) : Ending.returned (.bool a) = .returned (.bool b) := by rw [h]
theorem ret_val {a b : Value} (h : a = b) : Ending.returned a = .returned b := by rw [h]

/-- a callee that leaves the world alone, met in a region whose world is already behind some draws -/
theorem quiet_l {P : Program} {f : FuncId} {args : Array Value} {w : World} {n : Nat} {v : Value}
    (h : Calls P f args (w.drewN n) fun e w' => e = .returned v ∧ w.drewN n = w') : Calls P f args (w.drewN n) fun e w'' => e = .returned v ∧ ∃ m, w'' = w.drewN m :=
  h.mono fun _ _ hh => ⟨hh.1, n, hh.2.symm⟩
theorem quiet_al {P : Program} {f : FuncId} {args : Array Value} {w : World} {a n : Nat} {v : Value}
    (h : Calls P f args (w.drewN (a + n)) fun e w' => e = .returned v ∧ w.drewN (a + n) = w') : Calls P f args (w.drewN (a + n)) fun e w'' => e = .returned v ∧ ∃ m, w'' = w.drewN (a + m) :=
  h.mono fun _ _ hh => ⟨hh.1, n, hh.2.symm⟩
theorem below_cells {W w1 : World} (hb : Below W.heap.size W w1) : (∀ b o, b < W.heap.size → w1.cell? ⟨b, o, none⟩ = W.cell? ⟨b, o, none⟩) ∧ (∀ b o, b < W.heap.size → w1.frozen? ⟨b, o, none⟩ = W.frozen? ⟨b, o, none⟩) :=
  ⟨fun b o h => hb.cell (p := ⟨b, o, none⟩) h, fun b o h => hb.frozen (p := ⟨b, o, none⟩) h⟩
theorem below_dn {B : Nat} {a w : World} (h : Below B a w) (n : Nat) : Below B a (w.drewN n) := ⟨h.os, h.tape, h.output, h.size, h.block⟩
/-- behind a new block and a call that leaves what was there -/
theorem below_al {W w1 : World} {o : Obj} (h : Below (W.alloc o).heap.size (W.alloc o) w1) : Below W.heap.size W w1 :=
  ((Below.refl _ _).alloc (Nat.le_refl _) o).trans (h.mono (by simp))
theorem below_ald {W w1 : World} {o : Obj} (h : Below (W.alloc o).drew.heap.size (W.alloc o).drew w1) : Below W.heap.size W w1 :=
  (((Below.refl _ _).alloc (Nat.le_refl _) o).drew).trans (h.mono (by simp))
theorem below_c {W Y Z : World} (h : Below W.heap.size W Y) (k : Below Y.heap.size Y Z) : Below W.heap.size W Z := h.trans (k.mono h.size)
theorem below_ca {W Y : World} (h : Below W.heap.size W Y) (o : Obj) : Below W.heap.size W (Y.alloc o) := h.alloc h.size o
theorem below_t {A B : Nat} {a b c : World} (h : Below A a b) (hA : A ≤ B) (k : Below B b c) : Below A a c := h.trans (k.mono hA)

theorem block_of_cell {W : World} {p : Addr} {v : Value} (h : W.cell? p = some v) : p.block < W.heap.size := by
  rcases Nat.lt_or_ge p.block W.heap.size with hlt | hge
  · exact hlt
  · unfold World.cell? at h
    rw [Array.getElem?_eq_none hge] at h
    cases h
theorem keep_cell {W w1 : World} (hb : Below W.heap.size W w1) {p : Addr} {v : Value} (h : W.cell? p = some v) : w1.cell? p = some v := (hb.cell (block_of_cell h)).trans h
theorem keep_frozen {W w1 : World} (hb : Below W.heap.size W w1) {p : Addr} {v : Value} (h : W.cell? p = some v) (hf : W.frozen? p = false) : w1.frozen? p = false := (hb.frozen (block_of_cell h)).trans hf
/-- The world behind a name, with what is known of it. -/
theorem wp_gen {P : Program} {c : Code} {Q : Exit → Act → World → Prop} {a : Act} {w : World} (Pr : World → Prop) (h : Pr w) (k : ∀ W, Pr W → Code.wp P c Q a W) : Code.wp P c Q a w := k w h
theorem ex_gen {K : Act → World → Prop} {Q : Exit → Act → World → Prop} {a : Act} {w : World} (Pr : World → Prop) (h : Pr w) (k : ∀ W, Pr W → Exit.then K Q .normal a W) : Exit.then K Q .normal a w := k w h
/-- A world in which all that was there in w0 is as it was. -/
structure Later (w0 : World) where
  now : World
  still : Below w0.heap.size w0 now
instance later_some (w : World) : Nonempty (Later w) := ⟨⟨w, Below.refl _ _⟩⟩
/-- A region that draws its order, whose operations only read, and whose callees leave what was there: one walk, in the order of the text. -/
theorem wp_region_later {P : Program} {id : Nat} {Q : Exit → Act → World → Prop} {a : Act} {w : World} {l : List Oper} (hm : P.follows .mixedOrders = true) (hB : Region.lexB .any l.toArray = true)
    (h : (∀ (u : Later w) (b o : Nat), b < w.heap.size → u.now.cell? ⟨b, o, none⟩ = w.cell? ⟨b, o, none⟩) →
      wpQuiet P l.toArray (fun w' => ∃ u : Later w, w' = u.now) (fun a' => ∀ w', Below w.heap.size w w' → Q .normal a' w') l a) : (Code.region id l.toArray true).wp P Q a w := by
  refine wp_region_quiet (C := fun w' => ∃ u : Later w, w' = u.now) hm hB ⟨⟨_, (Below.refl w.heap.size w).drew⟩, rfl⟩ ?_
  have := h (fun u b o hb => u.still.cell (p := ⟨b, o, none⟩) hb)
  have e : (fun a' => ∀ w', (∃ u : Later w, w' = u.now) → Q .normal a' w') = (fun a' => ∀ w', Below w.heap.size w w' → Q .normal a' w') := by
    funext a'
    apply propext
    constructor
    · intro g w' hw'; exact g w' ⟨⟨w', hw'⟩, rfl⟩
    · rintro g w' ⟨u, rfl⟩; exact g _ u.still
  rw [e]
  exact this
theorem later_call {P : Program} {f : FuncId} {args : Array Value} {w : World} {u : Later w} {v : Value} (h : Calls P f args u.now fun e w' => e = .returned v ∧ Below u.now.heap.size u.now w') :
    Calls P f args u.now fun e w'' => e = .returned v ∧ ∃ u' : Later w, w'' = u'.now :=
  h.mono fun _ w' hh => ⟨hh.1, ⟨w', u.still.trans (hh.2.mono u.still.size)⟩, rfl⟩
theorem later_same {P : Program} {f : FuncId} {args : Array Value} {w : World} {u : Later w} {v : Value} (h : Calls P f args u.now fun e w' => e = .returned v ∧ u.now = w') :
    Calls P f args u.now fun e w'' => e = .returned v ∧ ∃ u' : Later w, w'' = u'.now :=
  h.mono fun _ w' hh => ⟨hh.1, u, hh.2.symm⟩
end Go.Proofs.Ytlehknaiddidaaa
