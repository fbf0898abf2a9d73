/- What ConnStates needs, part 1: Kit, Base, Dat. -/
import Derived.Test.YtfpifahkpkjfgaaRows
import Derived.WalkKit
import Derived.ProofKit
import Derived.OpenShut
import Derived.ChangeOld
import Derived.Below
import Derived.SizedLaws
import Derived.ChangeMaps5
import Derived.WalkSpells
import Derived.WalkLawsBesides
import Derived.Lib.Hide
import Derived.BigQuiet
import Derived.Deep.QuietTactic
import Derived.Deep.RegionHeld3
import Derived.Deep.DrawnRows
import Derived.Deep.Cut
import Derived.Deep.DeepCutAuto
import Derived.Deep.LoopGhost
import Derived.Deep.Draws
import Derived.Deep.Slices
import Derived.Deep.MidRow
/- Small lemmas for the frame of every law: what a value of a given type looks like (numbers in their bounds, structs cell by cell). -/
namespace Go.Proofs.Ytfpifahkpkjfgaa
open Go.ChangeShapes Go.WideShapes Go.ChangeAt Go.RowKit

theorem Kit.own : ownKnob Try.prog.godebug = none := by kernel_rfl
theorem Kit.laidOut : laidOutB Try.prog = true := by kernel_rfl

section
variable {P : Program} {w : World} {r : Reach} {b : Nat} {t : TypeId} {v : Value}
theorem cell_int {k : IntKind} (h : P.underlying t = some (.int k)) (hv : Cell.okWide P w r b t v) : ∃ n, v = .int k n ∧ k.min ≤ n ∧ n ≤ k.max := by
  simp only [Cell.okWide, Cell.ok, h] at hv
  cases v <;> simp_all [IntKind.has]
theorem cell_bool (h : P.underlying t = some .bool) (hv : Cell.okWide P w r b t v) : ∃ x, v = .bool x := by
  simp only [Cell.okWide, Cell.ok, h] at hv
  cases v <;> simp_all
theorem cell_string (h : P.underlying t = some .string) (hv : Cell.okWide P w r b t v) : ∃ s : ByteArray, v = .string s ∧ s.size ≤ 9223372036854775807 := by
  simp only [Cell.okWide, Cell.ok, h] at hv
  cases v <;> simp_all
  have h2 : IntKind.i64.max = 9223372036854775807 := rfl
  omega
theorem val_cell_int {k : IntKind} (h : P.underlying t = some (.int k)) (hv : Value.okWide P w r b t v) : Cell.okWide P w r b t v := by
  simpa only [Value.okWide, h] using hv
theorem val_cell_bool (h : P.underlying t = some .bool) (hv : Value.okWide P w r b t v) : Cell.okWide P w r b t v := by
  simpa only [Value.okWide, h] using hv
theorem val_cell_string (h : P.underlying t = some .string) (hv : Value.okWide P w r b t v) : Cell.okWide P w r b t v := by
  simpa only [Value.okWide, h] using hv
theorem agg_cells {fs : Array Field} {ts : List TypeId} (hs : P.underlying t = some (.struct fs)) (hts : P.cellTypes P.depth t = some ts) (hC : P.cellsOf t = ts.length) (hv : Value.okWide P w r b t v) :
    ∃ cs : List Value, v = .agg cs.toArray ∧ cs.length = ts.length ∧ ∀ (i : Nat) (u : TypeId) (x : Value), ts[i]? = some u → cs[i]? = some x → Cell.okWide P w r b u x := by
  simp only [Value.okWide, hs] at hv
  obtain ⟨cs, rfl, hsz, ts', hts', _, hall⟩ := hv
  rw [hts] at hts'
  cases hts'
  rw [hC] at hsz
  refine ⟨cs.toList, by simp, by simpa using hsz, fun i u x hu hx => ?_⟩
  have hi : i < ts.length := (List.getElem?_eq_some_iff.1 hu).1
  obtain ⟨u', hu', hc⟩ := hall i x (by simpa using hx)
  rw [Nat.mod_eq_of_lt hi, hu] at hu'
  cases hu'
  exact hc
theorem list2 {l : List Value} (h : l.length = 2) : ∃ a b, l = [a, b] := by
  match l, h with | [a, b], _ => exact ⟨a, b, rfl⟩
theorem list5 {l : List Value} (h : l.length = 5) : ∃ a b c d e, l = [a, b, c, d, e] := by
  match l, h with | [a, b, c, d, e], _ => exact ⟨a, b, c, d, e, rfl⟩
theorem list7 {l : List Value} (h : l.length = 7) : ∃ a b c d e f g, l = [a, b, c, d, e, f, g] := by
  match l, h with | [a, b, c, d, e, f, g], _ => exact ⟨a, b, c, d, e, f, g, rfl⟩
theorem list9 {l : List Value} (h : l.length = 9) : ∃ a b c d e f g i j, l = [a, b, c, d, e, f, g, i, j] := by
  match l, h with | [a, b, c, d, e, f, g, i, j], _ => exact ⟨a, b, c, d, e, f, g, i, j, rfl⟩
theorem list13 {l : List Value} (h : l.length = 13) : ∃ a b c d e f g i j k m n o, l = [a, b, c, d, e, f, g, i, j, k, m, n, o] := by
  match l, h with | [a, b, c, d, e, f, g, i, j, k, m, n, o], _ => exact ⟨a, b, c, d, e, f, g, i, j, k, m, n, o, rfl⟩
end
end Go.Proofs.Ytfpifahkpkjfgaa
/- Small lemmas that all walks of this seat use. -/
namespace Go.Proofs.Ytfpifahkpkjfgaa
open Go.RowKit
set_option linter.unusedVariables false

theorem ret_int {k : IntKind} {a b : Int} (h : a = b) : Ending.returned (.int k a) = .returned (.int k b) := by rw [h]
theorem ret_bool {a b : Bool} (h : a = b) : Ending.returned (.bool a) = .returned (.bool b) := by rw [h]
theorem ret_val {a b : Value} (h : a = b) : Ending.returned a = .returned b := by rw [h]

/-- a callee that leaves the world alone, met in a region whose world is already behind some draws -/
theorem quiet_l {P : Program} {f : FuncId} {args : Array Value} {w : World} {n : Nat} {v : Value}
    (h : Calls P f args (w.drewN n) fun e w' => e = .returned v ∧ w.drewN n = w') : Calls P f args (w.drewN n) fun e w'' => e = .returned v ∧ ∃ m, w'' = w.drewN m :=
  h.mono fun _ _ hh => ⟨hh.1, n, hh.2.symm⟩
theorem quiet_al {P : Program} {f : FuncId} {args : Array Value} {w : World} {a n : Nat} {v : Value}
    (h : Calls P f args (w.drewN (a + n)) fun e w' => e = .returned v ∧ w.drewN (a + n) = w') : Calls P f args (w.drewN (a + n)) fun e w'' => e = .returned v ∧ ∃ m, w'' = w.drewN (a + m) :=
  h.mono fun _ _ hh => ⟨hh.1, n, hh.2.symm⟩
theorem below_cells {W w1 : World} (hb : Below W.heap.size W w1) : (∀ b o, b < W.heap.size → w1.cell? ⟨b, o, none⟩ = W.cell? ⟨b, o, none⟩) ∧ (∀ b o, b < W.heap.size → w1.frozen? ⟨b, o, none⟩ = W.frozen? ⟨b, o, none⟩) :=
  ⟨fun b o h => hb.cell (p := ⟨b, o, none⟩) h, fun b o h => hb.frozen (p := ⟨b, o, none⟩) h⟩
theorem below_dn {B : Nat} {a w : World} (h : Below B a w) (n : Nat) : Below B a (w.drewN n) := ⟨h.os, h.tape, h.output, h.size, h.block⟩
/-- behind a new block and a call that leaves what was there -/
theorem below_al {W w1 : World} {o : Obj} (h : Below (W.alloc o).heap.size (W.alloc o) w1) : Below W.heap.size W w1 :=
  ((Below.refl _ _).alloc (Nat.le_refl _) o).trans (h.mono (by simp))
theorem below_ald {W w1 : World} {o : Obj} (h : Below (W.alloc o).drew.heap.size (W.alloc o).drew w1) : Below W.heap.size W w1 :=
  (((Below.refl _ _).alloc (Nat.le_refl _) o).drew).trans (h.mono (by simp))
theorem below_c {W Y Z : World} (h : Below W.heap.size W Y) (k : Below Y.heap.size Y Z) : Below W.heap.size W Z := h.trans (k.mono h.size)
theorem below_ca {W Y : World} (h : Below W.heap.size W Y) (o : Obj) : Below W.heap.size W (Y.alloc o) := h.alloc h.size o
theorem below_t {A B : Nat} {a b c : World} (h : Below A a b) (hA : A ≤ B) (k : Below B b c) : Below A a c := h.trans (k.mono hA)

theorem block_of_cell {W : World} {p : Addr} {v : Value} (h : W.cell? p = some v) : p.block < W.heap.size := by
  rcases Nat.lt_or_ge p.block W.heap.size with hlt | hge
  · exact hlt
  · unfold World.cell? at h
    rw [Array.getElem?_eq_none hge] at h
    cases h
theorem keep_cell {W w1 : World} (hb : Below W.heap.size W w1) {p : Addr} {v : Value} (h : W.cell? p = some v) : w1.cell? p = some v := (hb.cell (block_of_cell h)).trans h
theorem keep_frozen {W w1 : World} (hb : Below W.heap.size W w1) {p : Addr} {v : Value} (h : W.cell? p = some v) (hf : W.frozen? p = false) : w1.frozen? p = false := (hb.frozen (block_of_cell h)).trans hf
/-- Block g is just the cells cs of element type t. -/
def At (w : World) (g : Nat) (t : TypeId) (cs : List Value) : Prop := w.heap[g]? = some (.cells cs.toArray t (0, 0))
section
variable {w w' : World} {g : Nat} {t : TypeId} {cs : List Value}
theorem At.lt (h : At w g t cs) : g < w.heap.size := by
  rcases Nat.lt_or_ge g w.heap.size with hlt | hge
  · exact hlt
  · unfold At at h; rw [Array.getElem?_eq_none hge] at h; cases h
theorem At.cell (h : At w g t cs) (i : Nat) : w.cell? ⟨g, i, none⟩ = cs[i]? := by
  rw [cell_of_row w g i cs.toArray t (0, 0) h]; simp
theorem At.free (h : At w g t cs) (i : Nat) : w.frozen? ⟨g, i, none⟩ = false := by
  unfold At at h; simp [World.frozen?, h]
theorem At.new_ (w : World) (t : TypeId) (cs : List Value) : At (w.alloc (.cells cs.toArray t)) w.heap.size t cs := heap_alloc_new w _
theorem At.drew (h : At w g t cs) : At w.drew g t cs := h
theorem At.drewN (h : At w g t cs) (n : Nat) : At (w.drewN n) g t cs := h
theorem At.alloc (h : At w g t cs) (o : Obj) : At (w.alloc o) g t cs := (Below.heap_alloc w o g h.lt).trans h
theorem At.conv {cs' : List Value} (h : At w g t cs') (e : cs' = cs) : At w g t cs := e ▸ h
theorem At.far (h : At w g t cs) {p : Addr} (hp : g ≠ p.block) (u : Value) : At (w.setCell p u) g t cs := (Below.heap_setCell w p u g hp).trans h
theorem At.set_ (h : At w g t cs) (i : Nat) (u : Value) : At (w.setCell ⟨g, i, none⟩ u) g t (cs.set i u) := by
  unfold At at h ⊢
  simp [World.setCell, Array.getElem?_modify, h]
theorem At.keep {B : Nat} (h : At w g t cs) (hb : Below B w w') (hg : g < B) : At w' g t cs := (hb.block g hg).trans h
theorem At.kept (h : At w g t cs) (hb : Below w.heap.size w w') : At w' g t cs := (hb.block g h.lt).trans h
theorem At.grown {row : Option Nat} (h : At w g t cs) (hb : w.grownBy w' row) (hg : some g ≠ row) : At w' g t cs := (hb.block g h.lt hg).trans h
/-- nothing that was there has turned, but for block g -/
theorem only_refl (w : World) (row : Option Nat) : w.grownBy w row := World.grownBy.refl w row
theorem only_drew {a : World} {row : Option Nat} (h : a.grownBy w row) : a.grownBy w.drew row := ⟨h.os, h.tape, h.output, h.size, h.block⟩
theorem only_dn {a : World} {row : Option Nat} (h : a.grownBy w row) (n : Nat) : a.grownBy (w.drewN n) row := ⟨h.os, h.tape, h.output, h.size, h.block⟩
theorem only_alloc {a : World} {row : Option Nat} (h : a.grownBy w row) (o : Obj) : a.grownBy (w.alloc o) row :=
  ⟨h.os, h.tape, h.output, Nat.le_trans h.size (by simp), fun i hi hne => (Below.heap_alloc w o i (Nat.lt_of_lt_of_le hi h.size)).trans (h.block i hi hne)⟩
theorem only_set {a : World} (h : a.grownBy w (some g)) {p : Addr} (hp : p.block = g ∨ a.heap.size ≤ p.block) (u : Value) : a.grownBy (w.setCell p u) (some g) :=
  ⟨h.os, h.tape, h.output, by simpa [World.setCell] using h.size, fun i hi hne => (Below.heap_setCell w p u i (by
    rintro rfl
    rcases hp with hp | hp
    · exact hne (by rw [hp])
    · omega)).trans (h.block i hi hne)⟩
theorem only_below {a : World} {row : Option Nat} (h : a.grownBy w row) (k : Below w.heap.size w w') : a.grownBy w' row :=
  ⟨k.os.trans h.os, k.tape.trans h.tape, k.output.trans h.output, Nat.le_trans h.size k.size, fun i hi hne => (k.block i (Nat.lt_of_lt_of_le hi h.size)).trans (h.block i hi hne)⟩
theorem only_trans {a : World} {row : Option Nat} (h : a.grownBy w row) (k : w.grownBy w' row) : a.grownBy w' row :=
  ⟨k.os.trans h.os, k.tape.trans h.tape, k.output.trans h.output, Nat.le_trans h.size k.size, fun i hi hne => (k.block i (Nat.lt_of_lt_of_le hi h.size) hne).trans (h.block i hi hne)⟩
/-- a block of one's own may turn -/
theorem below_only {W : World} (h : Below W.heap.size W w) (k : w.grownBy w' (some g)) (hg : W.heap.size ≤ g) : Below W.heap.size W w' :=
  h.grown k h.size (fun j hj => by cases hj; exact hg)
end
/-- The world behind a name, with what is known of it. -/
theorem wp_gen {P : Program} {c : Code} {Q : Exit → Act → World → Prop} {a : Act} {w : World} (Pr : World → Prop) (h : Pr w) (k : ∀ W, Pr W → Code.wp P c Q a W) : Code.wp P c Q a w := k w h
theorem ex_gen {K : Act → World → Prop} {Q : Exit → Act → World → Prop} {a : Act} {w : World} (Pr : World → Prop) (h : Pr w) (k : ∀ W, Pr W → Exit.then K Q .normal a W) : Exit.then K Q .normal a w := k w h
theorem calls_gen {P : Program} {f : FuncId} {args : Array Value} {w : World} {R : Ending → World → Prop} (Pr : World → Prop) (h : Pr w) (k : ∀ W, Pr W → Calls P f args W R) : Calls P f args w R := k w h
/-- A world in which all that was there in w0 is as it was. -/
structure Later (w0 : World) where
  now : World
  still : Below w0.heap.size w0 now
instance later_some (w : World) : Nonempty (Later w) := ⟨⟨w, Below.refl _ _⟩⟩
/-- A region that draws its order, whose operations only read, and whose callees leave what was there: one walk, in the order of the text. -/
theorem wp_region_later {P : Program} {id : Nat} {Q : Exit → Act → World → Prop} {a : Act} {w : World} {l : List Oper} (hm : P.follows .mixedOrders = true) (hB : Region.lexB .any l.toArray = true)
    (h : (∀ (u : Later w) (b o : Nat), b < w.heap.size → u.now.cell? ⟨b, o, none⟩ = w.cell? ⟨b, o, none⟩) →
      wpQuiet P l.toArray (fun w' => ∃ u : Later w, w' = u.now) (fun a' => ∀ w', Below w.heap.size w w' → Q .normal a' w') l a) : (Code.region id l.toArray true).wp P Q a w := by
  refine wp_region_quiet (C := fun w' => ∃ u : Later w, w' = u.now) hm hB ⟨⟨_, (Below.refl w.heap.size w).drew⟩, rfl⟩ ?_
  have := h (fun u b o hb => u.still.cell (p := ⟨b, o, none⟩) hb)
  have e : (fun a' => ∀ w', (∃ u : Later w, w' = u.now) → Q .normal a' w') = (fun a' => ∀ w', Below w.heap.size w w' → Q .normal a' w') := by
    funext a'
    apply propext
    constructor
    · intro g w' hw'; exact g w' ⟨⟨w', hw'⟩, rfl⟩
    · rintro g w' ⟨u, rfl⟩; exact g _ u.still
  rw [e]
  exact this
theorem later_call {P : Program} {f : FuncId} {args : Array Value} {w : World} {u : Later w} {v : Value} (h : Calls P f args u.now fun e w' => e = .returned v ∧ Below u.now.heap.size u.now w') :
    Calls P f args u.now fun e w'' => e = .returned v ∧ ∃ u' : Later w, w'' = u'.now :=
  h.mono fun _ w' hh => ⟨hh.1, ⟨w', u.still.trans (hh.2.mono u.still.size)⟩, rfl⟩
theorem later_same {P : Program} {f : FuncId} {args : Array Value} {w : World} {u : Later w} {v : Value} (h : Calls P f args u.now fun e w' => e = .returned v ∧ u.now = w') :
    Calls P f args u.now fun e w'' => e = .returned v ∧ ∃ u' : Later w, w'' = u'.now :=
  h.mono fun _ w' hh => ⟨hh.1, u, hh.2.symm⟩
end Go.Proofs.Ytfpifahkpkjfgaa
/- What an argument's memory looks like: cells of scalar kinds, rows of structs. Plain words for the walks, and how they are read off the form's own reading. -/
namespace Go.Proofs.Ytfpifahkpkjfgaa
open Go.ChangeShapes Go.WideShapes Go.ChangeAt Go.RowKit
set_option linter.unusedVariables false

/-- the kinds of cells -/
inductive Kd where
  | int (k : IntKind)
  | bool
  | str
def okCell : Kd → Value → Prop
  | .int k, v => ∃ n, v = .int k n ∧ k.min ≤ n ∧ n ≤ k.max
  | .bool, v => ∃ x, v = .bool x
  | .str, v => ∃ s : ByteArray, v = .string s ∧ s.size ≤ 140737488351232
def okAll : List Kd → List Value → Prop
  | [], [] => True
  | k :: ks, v :: vs => okCell k v ∧ okAll ks vs
  | _, _ => False

theorem okAll_len : ∀ {ks : List Kd} {vs : List Value}, okAll ks vs → vs.length = ks.length
  | [], [], _ => rfl
  | _ :: ks, _ :: vs, h => by simp [okAll_len h.2]
  | [], _ :: _, h => h.elim
  | _ :: _, [], h => h.elim
theorem okAll_app : ∀ {ks : List Kd} {vs : List Value} {ks' : List Kd} {vs' : List Value}, okAll ks vs → okAll ks' vs' → okAll (ks ++ ks') (vs ++ vs')
  | [], [], _, _, _, h' => h'
  | _ :: ks, _ :: vs, _, _, h, h' => ⟨h.1, okAll_app h.2 h'⟩
  | [], _ :: _, _, _, h, _ => h.elim
  | _ :: _, [], _, _, h, _ => h.elim
theorem okAll_at : ∀ {ks : List Kd} {vs : List Value} (i : Nat) {k : Kd}, okAll ks vs → ks[i]? = some k → ∃ v, vs[i]? = some v ∧ okCell k v
  | [], [], i, k, _, h => by simp at h
  | _ :: ks, v :: vs, 0, k, h, hk => by simp at hk; subst hk; exact ⟨v, rfl, h.1⟩
  | _ :: ks, v :: vs, i + 1, k, h, hk => by
    obtain ⟨u, hu, ho⟩ := okAll_at i h.2 (by simpa using hk)
    exact ⟨u, by simpa using hu, ho⟩
  | [], _ :: _, _, _, h, _ => h.elim
  | _ :: _, [], _, _, h, _ => h.elim
theorem okAll_one : ∀ {ks : List Kd} {vs : List Value}, okAll ks vs → ∀ v ∈ vs, v.oneCell' = true
  | [], [], _, v, hv => by simp at hv
  | k :: ks, u :: vs, h, v, hv => by
    rcases List.mem_cons.1 hv with rfl | hv
    · have := h.1
      cases k with
      | int k => obtain ⟨n, rfl, _⟩ := this; rfl
      | bool => obtain ⟨x, rfl⟩ := this; rfl
      | str => obtain ⟨s, rfl, _⟩ := this; rfl
    · exact okAll_one h.2 v hv
  | [], _ :: _, h, _, _ => h.elim
  | _ :: _, [], h, _, _ => h.elim
/-- fields that stand one behind the other -/
theorem okAll_fields : ∀ (F : List (List Kd)) (vs : List Value), vs.length = F.flatten.length → (∀ (i : Nat) (ks : List Kd), F[i]? = some ks → okAll ks ((vs.drop (F.take i).flatten.length).take ks.length)) → okAll F.flatten vs
  | [], vs, hl, _ => by
    have : vs = [] := List.eq_nil_of_length_eq_zero (by simpa using hl)
    subst this; trivial
  | ks :: F, vs, hl, h => by
    have h0 := h 0 ks rfl
    simp at h0
    have h1 := okAll_fields F (vs.drop ks.length) (by simp at hl; simp; omega) (fun i k hk => by
      have := h (i + 1) k (by simpa using hk)
      simp at this
      rw [List.drop_drop]
      simpa using this)
    have := okAll_app h0 h1
    rw [List.take_append_drop] at this
    simpa using this

/-- each string and slice in it is small -/
def Small {H : Type} (P : Program) (t : TypeId) (d : DataW H) : Prop := ∀ n ∈ d.weights P t, n ≤ 140737488351232
theorem small_of {H : Type} {P : Program} {ts : List TypeId} {ds : List (DataW H)} (h : (DataW.weightsEach P ts ds).all (· ≤ reachBytes) = true) {j : Nat} {t : TypeId} {d : DataW H} (ht : ts[j]? = some t) (hd : ds[j]? = some d) : Small P t d := by
  intro n hn
  have := List.all_eq_true.1 h _ (DataW.weights_mem_each ht hd n hn)
  have e : reachBytes = 140737488351232 := rfl
  rw [e] at this
  simpa using this
theorem weights_mem_all {H : Type} {P : Program} {e : TypeId} : ∀ {ds : List (DataW H)} {j : Nat} {d : DataW H}, ds[j]? = some d → ∀ n ∈ d.weights P e, n ∈ DataW.weightsAll P e ds
  | d0 :: ds, 0, d, hd, n, hn => by
    simp only [List.getElem?_cons_zero, Option.some.injEq] at hd
    subst hd
    simp only [DataW.weightsAll, List.mem_append]
    exact Or.inl hn
  | d0 :: ds, j + 1, d, hd, n, hn => by
    simp only [List.getElem?_cons_succ] at hd
    simp only [DataW.weightsAll, List.mem_append]
    exact Or.inr (weights_mem_all hd n hn)
  | [], _, _, hd, _, _ => by simp at hd
theorem small_elem {H : Type} {P : Program} {t e : TypeId} {el sp : List (DataW H)} (ht : P.underlying t = some (.slice e)) (h : Small P t (.slice el sp)) {i : Nat} {d : DataW H} (hd : el[i]? = some d) : Small P e d := by
  intro n hn
  refine h n ?_
  simp only [DataW.weights, ht, List.mem_cons, List.mem_append]
  exact .inr (.inl (weights_mem_all hd n hn))
theorem small_field {H : Type} {P : Program} {t : TypeId} {fs : Array Field} {parts : List (DataW H)} (ht : P.underlying t = some (.struct fs)) (h : Small P t (.agg parts)) {i : Nat} {f : Field} {d : DataW H} (hf : fs[i]? = some f) (hd : parts[i]? = some d) : Small P f.type d := by
  intro n hn
  refine h n ?_
  simp only [DataW.weights, ht]
  exact DataW.weights_mem_each (j := i) (t := f.type) (by simp [hf]) hd n hn
section
variable {H : Type} {enc : TypeId × Value → H} {P : Program} {w : World} {base : Nat} {sp : Nat → Bool} {held : Bool} {fuel : Nat} {t : TypeId} {cs : List Value} {x : DataW H × List MemPlace}
theorem trod_ok_int {k : IntKind} (ht : P.underlying t = some (.int k)) (h : DataW.trod enc P w base sp held fuel t cs = some x) : okAll [.int k] cs := by
  obtain ⟨n, rfl, _, hw⟩ := DataW.trod_int ht h
  refine ⟨⟨n, rfl, ?_⟩, trivial⟩
  simpa [Lit.wf] using hw
theorem trod_ok_bool (ht : P.underlying t = some .bool) (h : DataW.trod enc P w base sp held fuel t cs = some x) : okAll [.bool] cs := by
  obtain ⟨n, rfl, _⟩ := DataW.trod_bool ht h
  exact ⟨⟨n, rfl⟩, trivial⟩
theorem trod_ok_str (ht : P.underlying t = some .string) (h : DataW.trod enc P w base sp held fuel t cs = some x) (hw : Small P t x.1) : okAll [.str] cs := by
  obtain ⟨n, rfl, rfl, hs⟩ := DataW.trod_string ht h
  have := hw n.data.toList.length (by simp [DataW.weights])
  exact ⟨⟨n, rfl, by simpa using this⟩, trivial⟩
/-- a struct whose fields read -/
theorem trod_ok_struct {fs : Array Field} (F : List (List Kd)) (ht : P.underlying t = some (.struct fs)) (hn : F.length = fs.size) (hC : P.cellsOf t = F.flatten.length)
    (hf : ∀ (i : Nat) (f : Field) (ks : List Kd), fs[i]? = some f → F[i]? = some ks → f.offset = (F.take i).flatten.length ∧ P.cellsOf f.type = ks.length ∧
      ∀ (n : Nat) (c : List Value) (y : DataW H × List MemPlace), DataW.trod enc P w base sp held n f.type c = some y → Small P f.type y.1 → okAll ks c)
    (h : DataW.trod enc P w base sp held fuel t cs = some x) (hw : Small P t x.1) : okAll F.flatten cs := by
  obtain ⟨xs, n, _, rfl, hl, hxl, hx⟩ := DataW.trod_struct ht h
  refine okAll_fields F cs (by rw [hl, hC]) (fun i ks hk => ?_)
  have hi : i < F.length := (List.getElem?_eq_some_iff.1 hk).1
  have hif : i < fs.size := by omega
  obtain ⟨e1, e2, e3⟩ := hf i fs[i] ks (Array.getElem?_eq_getElem hif) hk
  have hxi : xs[i]? = some xs[i] := List.getElem?_eq_getElem (by omega)
  have := hx i fs[i] (Array.getElem?_eq_getElem hif)
  rw [hxi, e1, e2] at this
  exact e3 _ _ _ this (small_field ht hw (i := i) (f := fs[i]) (Array.getElem?_eq_getElem hif) (by simp [hxi]))
end

theorem range_kept {w w' : World} {b o : Nat} {cs : List Value} (h : w.rangeAt b o cs) (hb : Below w.heap.size w w') : w'.rangeAt b o cs := fun j v hj => keep_cell hb (h j v hj)
theorem there_new (w : World) (C : Array Value) (t : TypeId) (n : Nat) (h : n ≤ C.size) : (w.alloc (.cells C t)).there w.heap.size 0 n := fun j hj => by
  have hnew : (w.alloc (.cells C t)).heap[w.heap.size]? = some (.cells C t) := heap_alloc_new w _
  constructor
  · rw [Nat.zero_add, cell_of_row _ _ _ _ _ _ hnew, Array.getElem?_eq_getElem (by omega)]; rfl
  · unfold World.frozen?; rw [hnew]; simp
/-- a variable of one's own, made and filled: what is known of the world then -/
theorem boxed (w : World) (C : Array Value) (t : TypeId) (cs : List Value) (h : cs.length ≤ C.size) :
    Below w.heap.size w ((w.alloc (.cells C t)).setCells w.heap.size 0 cs) ∧ ((w.alloc (.cells C t)).setCells w.heap.size 0 cs).rangeAt w.heap.size 0 cs ∧ w.heap.size < ((w.alloc (.cells C t)).setCells w.heap.size 0 cs).heap.size := by
  have key : ∀ (vs : List Value) (o : Nat) (x : World), Below w.heap.size w x → w.heap.size < x.heap.size → Below w.heap.size w (x.setCells w.heap.size o vs) ∧ w.heap.size < (x.setCells w.heap.size o vs).heap.size := by
    intro vs
    induction vs with
    | nil => intro o x h h'; exact ⟨h, h'⟩
    | cons v r ih =>
      intro o x h h'
      rw [World.setCells]
      exact ih (o + 1) _ (h.setCell (Nat.le_refl _) v) (by simpa [World.setCell] using h')
  have k := key cs 0 (w.alloc (.cells C t)) (below_ca (Below.refl _ _) _) (by simp)
  exact ⟨k.1, World.rangeAt_setCells_same _ _ _ _ (there_new w C t cs.length h), k.2⟩
/-- rows of structs that came in: the slice value '.slice A len cap' -/
structure Rows_ (w : World) (A : Option Addr) (len : Nat) (ks : List Kd) (css : Nat → List Value) : Prop where
  at_ : ∀ i, i < len → ∃ b off, A = some ⟨b, off, none⟩ ∧ w.rangeAt b (off + i * ks.length) (css i)
  ok : ∀ i, i < len → okAll ks (css i)
section
variable {H : Type} {enc : TypeId × Value → H} {P : Program} {w : World} {t e : TypeId} {ks : List Kd} {A : Option Addr} {n c : Nat} {d : DataW H} {ps : List MemPlace} {r : Reach} {b0 : Nat}
theorem spot_of (ht : P.underlying t = some (.slice e)) {a : Addr} (hv : Value.okWide P w r b0 t (.slice (some a) n c)) : a.spot = none := by
  simp only [Value.okWide, ht, Cell.okWide, Cell.ok] at hv
  exact hv.2.2.2.1
theorem rows_open (ht : P.underlying t = some (.slice e)) (hC : P.cellsOf e = ks.length) (hok : ∀ fuel cs x, DataW.trod enc P w 0 (fun _ => true) true fuel e cs = some x → Small P e x.1 → okAll ks cs)
    (hv : Value.okWide P w r b0 t (.slice A n c)) (h : DataW.Trod enc P w 0 (fun _ => true) true t (.slice A n c) d ps) (hw : Small P t d) :
    (∃ css, Rows_ w A n ks css) ∧ ((n = 0 ∧ A = none) ∨ ∃ el sp, d = .slice el sp ∧ el.length = n) := by
  obtain ⟨fuel, hf⟩ := h
  rcases Deep.open_slice ht hf with ⟨hcs, _⟩ | ⟨a, len, cap, m, k, D, Pl, hcs, _, hl, hm, hmm, hx, hi⟩
  · simp [Value.cells] at hcs
    obtain ⟨rfl, rfl, rfl⟩ := hcs
    exact ⟨⟨fun _ => [], fun i h => absurd h (by omega), fun i h => absurd h (by omega)⟩, .inl ⟨rfl, rfl⟩⟩
  · simp [Value.cells] at hcs
    obtain ⟨rfl, rfl, rfl⟩ := hcs
    have hsp := spot_of ht hv
    obtain ⟨b, off, spot⟩ := a
    simp only at hsp
    subst hsp
    have hle : n ≤ m := by rw [hmm]; split <;> omega
    have hch : ∀ i, ∃ cs', i < n → w.cells? 0 ((⟨b, off, none⟩ : Addr).add (i * P.cellsOf e)) (P.cellsOf e) = some cs' ∧ DataW.trod enc P w 0 (fun _ => true) true k e cs' = some (D i, Pl i) := by
      intro i
      by_cases hi2 : i < n
      · obtain ⟨cs', h1, h2⟩ := hi i (by omega)
        exact ⟨cs', fun _ => ⟨h1, h2⟩⟩
      · exact ⟨[], fun h => absurd h hi2⟩
    refine ⟨⟨fun i => (hch i).choose, fun i hi2 => ⟨b, off, rfl, ?_⟩, fun i hi2 => ?_⟩, .inr ⟨_, _, by simpa using congrArg (·.1) hx, by simp⟩⟩
    · have h1 := ((hch i).choose_spec hi2).1
      obtain ⟨_, hlen, hcell⟩ := World.cells?_some h1
      intro j v hj
      have hj2 : j < P.cellsOf e := by
        have := (List.getElem?_eq_some_iff.1 hj).1
        omega
      have := hcell j hj2
      rw [hj, Addr.add_mid, Addr.add_mid, hC] at this
      exact this
    · refine hok _ _ _ ((hch i).choose_spec hi2).2 ?_
      have hd : d = _ := congrArg (·.1) hx
      rw [hd] at hw
      exact small_elem ht hw (i := i) (by simp [hi2])
end
/-- a whole struct loaded, the operation guarded by a test that said so -/
theorem wpList_load_g {P : Program} {ops : Array Oper} {rest : List Oper} {op : Oper} {a : Act} {w : World} {Q : Exit → Act → World → Prop} (hw : Region.wanted op (yielded ops a.tmps) = true) (ty : TypeId) (x : Operand) (ho : op.op = .load ty x)
    (b o : Nat) (hx : a.eval x = .pointer (some ⟨b, o, none⟩)) (cs : List Value) (d : TypeDesc) (hc : w.rangeAt b o cs)
    (hu : P.underlying ty = some d) (hd : d.isRow = true) (hi : (P.info? ty).map (·.size) = some cs.length)
    (h : wpList P ops Q rest (a.put op.dst (.agg cs.toArray)) w) : wpList P ops Q (op :: rest) a w :=
  wpList_step fun K hK => by
    rw [if_pos hw]
    exact wp_load_mid ty x ho b o hx cs d hc hu hd hi (hK _ _ h)
end Go.Proofs.Ytfpifahkpkjfgaa
