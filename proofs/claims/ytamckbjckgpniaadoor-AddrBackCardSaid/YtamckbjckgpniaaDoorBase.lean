/- Small lemmas that all walks of this seat use. -/
import Derived.Test.YtamckbjckgpniaaDoorRows
import Derived.WalkKit
import Derived.WalkSpells
import Derived.WalkLawsBesides
import Derived.Lib.Hide
import Derived.BigQuiet
import Derived.Deep.QuietTactic
import Derived.Deep.RegionHeld3
import Derived.Deep.DrawnRows
import Derived.Deep.Cut
import Derived.Deep.DeepCutAuto
import Derived.Deep.LoopGhost
import Derived.Deep.Draws
import Derived.Below
namespace Go.Proofs.YtamckbjckgpniaaDoor
open Go.RowKit
set_option linter.unusedVariables false

theorem ret_int {k : IntKind} {a b : Int} (h : a = b) : Ending.returned (.int k a) = .returned (.int k b) := by rw [h]
theorem ret_bool {a b : Bool} (h : a = b) : Ending.returned (.bool a) = .returned (.bool b) := by rw [h]
theorem ret_val {a b : Value} (h : a = b) : Ending.returned a = .returned b := by rw [h]

/-- a callee that leaves the world alone, met in a region whose world is already behind some draws -/
theorem quiet_l {P : Program} {f : FuncId} {args : Array Value} {w : World} {n : Nat} {v : Value}
    (h : Calls P f args (w.drewN n) fun e w' => e = .returned v ∧ w.drewN n = w') : Calls P f args (w.drewN n) fun e w'' => e = .returned v ∧ ∃ m, w'' = w.drewN m :=
  h.mono fun _ _ hh => ⟨hh.1, n, hh.2.symm⟩
theorem quiet_al {P : Program} {f : FuncId} {args : Array Value} {w : World} {a n : Nat} {v : Value}
    (h : Calls P f args (w.drewN (a + n)) fun e w' => e = .returned v ∧ w.drewN (a + n) = w') : Calls P f args (w.drewN (a + n)) fun e w'' => e = .returned v ∧ ∃ m, w'' = w.drewN (a + m) :=
  h.mono fun _ _ hh => ⟨hh.1, n, hh.2.symm⟩
theorem below_cells {W w1 : World} (hb : Below W.heap.size W w1) : (∀ b o, b < W.heap.size → w1.cell? ⟨b, o, none⟩ = W.cell? ⟨b, o, none⟩) ∧ (∀ b o, b < W.heap.size → w1.frozen? ⟨b, o, none⟩ = W.frozen? ⟨b, o, none⟩) :=
  ⟨fun b o h => hb.cell (p := ⟨b, o, none⟩) h, fun b o h => hb.frozen (p := ⟨b, o, none⟩) h⟩
theorem below_dn {B : Nat} {a w : World} (h : Below B a w) (n : Nat) : Below B a (w.drewN n) := ⟨h.os, h.tape, h.output, h.size, h.block⟩
/-- behind a new block and a call that leaves what was there -/
theorem below_al {W w1 : World} {o : Obj} (h : Below (W.alloc o).heap.size (W.alloc o) w1) : Below W.heap.size W w1 :=
  ((Below.refl _ _).alloc (Nat.le_refl _) o).trans (h.mono (by simp))
theorem below_ald {W w1 : World} {o : Obj} (h : Below (W.alloc o).drew.heap.size (W.alloc o).drew w1) : Below W.heap.size W w1 :=
  (((Below.refl _ _).alloc (Nat.le_refl _) o).drew).trans (h.mono (by simp))
theorem below_c {W Y Z : World} (h : Below W.heap.size W Y) (k : Below Y.heap.size Y Z) : Below W.heap.size W Z := h.trans (k.mono h.size)
theorem below_ca {W Y : World} (h : Below W.heap.size W Y) (o : Obj) : Below W.heap.size W (Y.alloc o) := h.alloc h.size o
theorem below_t {A B : Nat} {a b c : World} (h : Below A a b) (hA : A ≤ B) (k : Below B b c) : Below A a c := h.trans (k.mono hA)

theorem block_of_cell {W : World} {p : Addr} {v : Value} (h : W.cell? p = some v) : p.block < W.heap.size := by
  rcases Nat.lt_or_ge p.block W.heap.size with hlt | hge
  · exact hlt
  · unfold World.cell? at h
    rw [Array.getElem?_eq_none hge] at h
    cases h
theorem keep_cell {W w1 : World} (hb : Below W.heap.size W w1) {p : Addr} {v : Value} (h : W.cell? p = some v) : w1.cell? p = some v := (hb.cell (block_of_cell h)).trans h
theorem keep_frozen {W w1 : World} (hb : Below W.heap.size W w1) {p : Addr} {v : Value} (h : W.cell? p = some v) (hf : W.frozen? p = false) : w1.frozen? p = false := (hb.frozen (block_of_cell h)).trans hf
/-- Block g is just the cells cs of element type t. -/
def At (w : World) (g : Nat) (t : TypeId) (cs : List Value) : Prop := w.heap[g]? = some (.cells cs.toArray t (0, 0))
section
variable {w w' : World} {g : Nat} {t : TypeId} {cs : List Value}
theorem At.lt (h : At w g t cs) : g < w.heap.size := by
  rcases Nat.lt_or_ge g w.heap.size with hlt | hge
  · exact hlt
  · unfold At at h; rw [Array.getElem?_eq_none hge] at h; cases h
theorem At.cell (h : At w g t cs) (i : Nat) : w.cell? ⟨g, i, none⟩ = cs[i]? := by
  rw [cell_of_row w g i cs.toArray t (0, 0) h]; simp
theorem At.free (h : At w g t cs) (i : Nat) : w.frozen? ⟨g, i, none⟩ = false := by
  unfold At at h; simp [World.frozen?, h]
theorem At.new_ (w : World) (t : TypeId) (cs : List Value) : At (w.alloc (.cells cs.toArray t)) w.heap.size t cs := heap_alloc_new w _
theorem At.drew (h : At w g t cs) : At w.drew g t cs := h
theorem At.drewN (h : At w g t cs) (n : Nat) : At (w.drewN n) g t cs := h
theorem At.alloc (h : At w g t cs) (o : Obj) : At (w.alloc o) g t cs := (Below.heap_alloc w o g h.lt).trans h
theorem At.conv {cs' : List Value} (h : At w g t cs') (e : cs' = cs) : At w g t cs := e ▸ h
theorem At.far (h : At w g t cs) {p : Addr} (hp : g ≠ p.block) (u : Value) : At (w.setCell p u) g t cs := (Below.heap_setCell w p u g hp).trans h
theorem At.set_ (h : At w g t cs) (i : Nat) (u : Value) : At (w.setCell ⟨g, i, none⟩ u) g t (cs.set i u) := by
  unfold At at h ⊢
  simp [World.setCell, Array.getElem?_modify, h]
theorem At.keep {B : Nat} (h : At w g t cs) (hb : Below B w w') (hg : g < B) : At w' g t cs := (hb.block g hg).trans h
theorem At.kept (h : At w g t cs) (hb : Below w.heap.size w w') : At w' g t cs := (hb.block g h.lt).trans h
theorem At.grown {row : Option Nat} (h : At w g t cs) (hb : w.grownBy w' row) (hg : some g ≠ row) : At w' g t cs := (hb.block g h.lt hg).trans h
/-- nothing that was there has turned, but for block g -/
theorem only_refl (w : World) (row : Option Nat) : w.grownBy w row := World.grownBy.refl w row
theorem only_drew {a : World} {row : Option Nat} (h : a.grownBy w row) : a.grownBy w.drew row := ⟨h.os, h.tape, h.output, h.size, h.block⟩
theorem only_dn {a : World} {row : Option Nat} (h : a.grownBy w row) (n : Nat) : a.grownBy (w.drewN n) row := ⟨h.os, h.tape, h.output, h.size, h.block⟩
theorem only_alloc {a : World} {row : Option Nat} (h : a.grownBy w row) (o : Obj) : a.grownBy (w.alloc o) row :=
  ⟨h.os, h.tape, h.output, Nat.le_trans h.size (by simp), fun i hi hne => (Below.heap_alloc w o i (Nat.lt_of_lt_of_le hi h.size)).trans (h.block i hi hne)⟩
theorem only_set {a : World} (h : a.grownBy w (some g)) {p : Addr} (hp : p.block = g ∨ a.heap.size ≤ p.block) (u : Value) : a.grownBy (w.setCell p u) (some g) :=
  ⟨h.os, h.tape, h.output, by simpa [World.setCell] using h.size, fun i hi hne => (Below.heap_setCell w p u i (by
    rintro rfl
    rcases hp with hp | hp
    · exact hne (by rw [hp])
    · omega)).trans (h.block i hi hne)⟩
theorem only_below {a : World} {row : Option Nat} (h : a.grownBy w row) (k : Below w.heap.size w w') : a.grownBy w' row :=
  ⟨k.os.trans h.os, k.tape.trans h.tape, k.output.trans h.output, Nat.le_trans h.size k.size, fun i hi hne => (k.block i (Nat.lt_of_lt_of_le hi h.size)).trans (h.block i hi hne)⟩
theorem only_trans {a : World} {row : Option Nat} (h : a.grownBy w row) (k : w.grownBy w' row) : a.grownBy w' row :=
  ⟨k.os.trans h.os, k.tape.trans h.tape, k.output.trans h.output, Nat.le_trans h.size k.size, fun i hi hne => (k.block i (Nat.lt_of_lt_of_le hi h.size) hne).trans (h.block i hi hne)⟩
/-- a block of one's own may turn -/
theorem below_only {W : World} (h : Below W.heap.size W w) (k : w.grownBy w' (some g)) (hg : W.heap.size ≤ g) : Below W.heap.size W w' :=
  h.grown k h.size (fun j hj => by cases hj; exact hg)
end
/-- The world behind a name, with what is known of it. -/
theorem wp_gen {P : Program} {c : Code} {Q : Exit → Act → World → Prop} {a : Act} {w : World} (Pr : World → Prop) (h : Pr w) (k : ∀ W, Pr W → Code.wp P c Q a W) : Code.wp P c Q a w := k w h
theorem ex_gen {K : Act → World → Prop} {Q : Exit → Act → World → Prop} {a : Act} {w : World} (Pr : World → Prop) (h : Pr w) (k : ∀ W, Pr W → Exit.then K Q .normal a W) : Exit.then K Q .normal a w := k w h
theorem calls_gen {P : Program} {f : FuncId} {args : Array Value} {w : World} {R : Ending → World → Prop} (Pr : World → Prop) (h : Pr w) (k : ∀ W, Pr W → Calls P f args W R) : Calls P f args w R := k w h
/-- A world in which all that was there in w0 is as it was. -/
structure Later (w0 : World) where
  now : World
  still : Below w0.heap.size w0 now
instance later_some (w : World) : Nonempty (Later w) := ⟨⟨w, Below.refl _ _⟩⟩
/-- A region that draws its order, whose operations only read, and whose callees leave what was there: one walk, in the order of the text. -/
theorem wp_region_later {P : Program} {id : Nat} {Q : Exit → Act → World → Prop} {a : Act} {w : World} {l : List Oper} (hm : P.follows .mixedOrders = true) (hB : Region.lexB .any l.toArray = true)
    (h : (∀ (u : Later w) (b o : Nat), b < w.heap.size → u.now.cell? ⟨b, o, none⟩ = w.cell? ⟨b, o, none⟩) →
      wpQuiet P l.toArray (fun w' => ∃ u : Later w, w' = u.now) (fun a' => ∀ w', Below w.heap.size w w' → Q .normal a' w') l a) : (Code.region id l.toArray true).wp P Q a w := by
  refine wp_region_quiet (C := fun w' => ∃ u : Later w, w' = u.now) hm hB ⟨⟨_, (Below.refl w.heap.size w).drew⟩, rfl⟩ ?_
  have := h (fun u b o hb => u.still.cell (p := ⟨b, o, none⟩) hb)
  have e : (fun a' => ∀ w', (∃ u : Later w, w' = u.now) → Q .normal a' w') = (fun a' => ∀ w', Below w.heap.size w w' → Q .normal a' w') := by
    funext a'
    apply propext
    constructor
    · intro g w' hw'; exact g w' ⟨⟨w', hw'⟩, rfl⟩
    · rintro g w' ⟨u, rfl⟩; exact g _ u.still
  rw [e]
  exact this
theorem later_call {P : Program} {f : FuncId} {args : Array Value} {w : World} {u : Later w} {v : Value} (h : Calls P f args u.now fun e w' => e = .returned v ∧ Below u.now.heap.size u.now w') :
    Calls P f args u.now fun e w'' => e = .returned v ∧ ∃ u' : Later w, w'' = u'.now :=
  h.mono fun _ w' hh => ⟨hh.1, ⟨w', u.still.trans (hh.2.mono u.still.size)⟩, rfl⟩
theorem later_same {P : Program} {f : FuncId} {args : Array Value} {w : World} {u : Later w} {v : Value} (h : Calls P f args u.now fun e w' => e = .returned v ∧ u.now = w') :
    Calls P f args u.now fun e w'' => e = .returned v ∧ ∃ u' : Later w, w'' = u'.now :=
  h.mono fun _ w' hh => ⟨hh.1, u, hh.2.symm⟩
end Go.Proofs.YtamckbjckgpniaaDoor
