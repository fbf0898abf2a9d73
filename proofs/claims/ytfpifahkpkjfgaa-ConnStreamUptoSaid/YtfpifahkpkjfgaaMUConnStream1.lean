/- What UConnStream needs, a part: Kit, Base, Dat, Str, Bulk. -/
import Derived.Test.YtfpifahkpkjfgaaRows
import Derived.WalkKit
import Derived.ProofKit
import Derived.OpenShut
import Derived.ChangeOld
import Derived.Below
import Derived.SizedLaws
import Derived.ChangeMaps5
import Derived.WalkSpells
import Derived.WalkLawsBesides
import Derived.Lib.Hide
import Derived.BigQuiet
import Derived.Deep.QuietTactic
import Derived.Deep.RegionHeld3
import Derived.Deep.DrawnRows
import Derived.Deep.Cut
import Derived.Deep.DeepCutAuto
import Derived.Deep.LoopGhost
import Derived.Deep.Draws
import Derived.Deep.Slices
import Derived.Deep.MidRow
import Derived.Test.YtfpifahkpkjfgaaMZ
/- Small lemmas for the frame of every law: what a value of a given type looks like (numbers in their bounds, structs cell by cell). -/
namespace Go.Proofs.Ytfpifahkpkjfgaa
open Go.ChangeShapes Go.WideShapes Go.ChangeAt Go.RowKit
theorem Kit.own : ownKnob Try.prog.godebug = none := by kernel_rfl
theorem Kit.laidOut : laidOutB Try.prog = true := by kernel_rfl
section
variable {P : Program} {w : World} {r : Reach} {b : Nat} {t : TypeId} {v : Value}
theorem cell_int {k : IntKind} (h : P.underlying t = some (.int k)) (hv : Cell.okWide P w r b t v) : ∃ n, v = .int k n ∧ k.min ≤ n ∧ n ≤ k.max := by
 simp only [Cell.okWide, Cell.ok, h] at hv
 cases v <;> simp_all [IntKind.has]
theorem val_cell_int {k : IntKind} (h : P.underlying t = some (.int k)) (hv : Value.okWide P w r b t v) : Cell.okWide P w r b t v := by
 simpa only [Value.okWide, h] using hv
end
end Go.Proofs.Ytfpifahkpkjfgaa
/- Small lemmas that all walks of this seat use. -/
namespace Go.Proofs.Ytfpifahkpkjfgaa
open Go.RowKit
set_option linter.unusedVariables false
theorem ret_int {k : IntKind} {a b : Int} (h : a = b) : Ending.returned (.int k a) = .returned (.int k b) := by rw [h]
theorem ret_bool {a b : Bool} (h : a = b) : Ending.returned (.bool a) = .returned (.bool b) := by rw [h]
theorem ret_val {a b : Value} (h : a = b) : Ending.returned a = .returned b := by rw [h]
theorem below_dn {B : Nat} {a w : World} (h : Below B a w) (n : Nat) : Below B a (w.drewN n) := ⟨h.os, h.tape, h.output, h.size, h.block⟩
theorem below_c {W Y Z : World} (h : Below W.heap.size W Y) (k : Below Y.heap.size Y Z) : Below W.heap.size W Z := h.trans (k.mono h.size)
theorem below_ca {W Y : World} (h : Below W.heap.size W Y) (o : Obj) : Below W.heap.size W (Y.alloc o) := h.alloc h.size o
theorem block_of_cell {W : World} {p : Addr} {v : Value} (h : W.cell? p = some v) : p.block < W.heap.size := by
 rcases Nat.lt_or_ge p.block W.heap.size with hlt | hge
 ·exact hlt
 ·unfold World.cell? at h
  rw [Array.getElem?_eq_none hge] at h
  cases h
theorem keep_cell {W w1 : World} (hb : Below W.heap.size W w1) {p : Addr} {v : Value} (h : W.cell? p = some v) : w1.cell? p = some v := (hb.cell (block_of_cell h)).trans h
/-- Block g is just the cells cs of element type t. -/
def At (w : World) (g : Nat) (t : TypeId) (cs : List Value) : Prop := w.heap[g]? = some (.cells cs.toArray t (0, 0))
section
variable {w w' : World} {g : Nat} {t : TypeId} {cs : List Value}
theorem At.lt (h : At w g t cs) : g < w.heap.size := by
 rcases Nat.lt_or_ge g w.heap.size with hlt | hge
 ·exact hlt
 ·unfold At at h; rw [Array.getElem?_eq_none hge] at h; cases h
theorem At.cell (h : At w g t cs) (i : Nat) : w.cell? ⟨g, i, none⟩ = cs[i]? := by
 rw [cell_of_row w g i cs.toArray t (0, 0) h]; simp
theorem At.free (h : At w g t cs) (i : Nat) : w.frozen? ⟨g, i, none⟩ = false := by
 unfold At at h; simp [World.frozen?, h]
theorem At.new_ (w : World) (t : TypeId) (cs : List Value) : At (w.alloc (.cells cs.toArray t)) w.heap.size t cs := heap_alloc_new w _
theorem At.drew (h : At w g t cs) : At w.drew g t cs := h
theorem At.drewN (h : At w g t cs) (n : Nat) : At (w.drewN n) g t cs := h
theorem At.alloc (h : At w g t cs) (o : Obj) : At (w.alloc o) g t cs := (Below.heap_alloc w o g h.lt).trans h
theorem At.conv {cs' : List Value} (h : At w g t cs') (e : cs' = cs) : At w g t cs := e ▸ h
theorem At.far (h : At w g t cs) {p : Addr} (hp : g ≠ p.block) (u : Value) : At (w.setCell p u) g t cs := (Below.heap_setCell w p u g hp).trans h
theorem At.set_ (h : At w g t cs) (i : Nat) (u : Value) : At (w.setCell ⟨g, i, none⟩ u) g t (cs.set i u) := by
 unfold At at h ⊢
 simp [World.setCell, Array.getElem?_modify, h]
theorem At.keep {B : Nat} (h : At w g t cs) (hb : Below B w w') (hg : g < B) : At w' g t cs := (hb.block g hg).trans h
theorem At.kept (h : At w g t cs) (hb : Below w.heap.size w w') : At w' g t cs := (hb.block g h.lt).trans h
theorem At.grown {row : Option Nat} (h : At w g t cs) (hb : w.grownBy w' row) (hg : some g ≠ row) : At w' g t cs := (hb.block g h.lt hg).trans h
/-- nothing that was there has turned, but for block g -/
theorem only_refl (w : World) (row : Option Nat) : w.grownBy w row := World.grownBy.refl w row
theorem only_drew {a : World} {row : Option Nat} (h : a.grownBy w row) : a.grownBy w.drew row := ⟨h.os, h.tape, h.output, h.size, h.block⟩
theorem only_dn {a : World} {row : Option Nat} (h : a.grownBy w row) (n : Nat) : a.grownBy (w.drewN n) row := ⟨h.os, h.tape, h.output, h.size, h.block⟩
theorem only_alloc {a : World} {row : Option Nat} (h : a.grownBy w row) (o : Obj) : a.grownBy (w.alloc o) row :=
 ⟨h.os, h.tape, h.output, Nat.le_trans h.size (by simp), fun i hi hne => (Below.heap_alloc w o i (Nat.lt_of_lt_of_le hi h.size)).trans (h.block i hi hne)⟩
theorem only_set {a : World} (h : a.grownBy w (some g)) {p : Addr} (hp : p.block = g ∨ a.heap.size ≤ p.block) (u : Value) : a.grownBy (w.setCell p u) (some g) :=
 ⟨h.os, h.tape, h.output, by simpa [World.setCell] using h.size, fun i hi hne => (Below.heap_setCell w p u i (by
  rintro rfl
  rcases hp with hp | hp
  ·exact hne (by rw [hp])
  ·omega)).trans (h.block i hi hne)⟩
theorem only_below {a : World} {row : Option Nat} (h : a.grownBy w row) (k : Below w.heap.size w w') : a.grownBy w' row :=
 ⟨k.os.trans h.os, k.tape.trans h.tape, k.output.trans h.output, Nat.le_trans h.size k.size, fun i hi hne => (k.block i (Nat.lt_of_lt_of_le hi h.size)).trans (h.block i hi hne)⟩
theorem only_trans {a : World} {row : Option Nat} (h : a.grownBy w row) (k : w.grownBy w' row) : a.grownBy w' row :=
 ⟨k.os.trans h.os, k.tape.trans h.tape, k.output.trans h.output, Nat.le_trans h.size k.size, fun i hi hne => (k.block i (Nat.lt_of_lt_of_le hi h.size) hne).trans (h.block i hi hne)⟩
end
/-- The world behind a name, with what is known of it. -/
theorem wp_gen {P : Program} {c : Code} {Q : Exit → Act → World → Prop} {a : Act} {w : World} (Pr : World → Prop) (h : Pr w) (k : ∀ W, Pr W → Code.wp P c Q a W) : Code.wp P c Q a w := k w h
/-- A world in which all that was there in w0 is as it was. -/
structure Later (w0 : World) where
 now : World
 still : Below w0.heap.size w0 now
instance later_some (w : World) : Nonempty (Later w) := ⟨⟨w, Below.refl _ _⟩⟩
/-- A region that draws its order, whose operations only read, and whose callees leave what was there: one walk, in the order of the text. -/
theorem wp_region_later {P : Program} {id : Nat} {Q : Exit → Act → World → Prop} {a : Act} {w : World} {l : List Oper} (hm : P.follows .mixedOrders = true) (hB : Region.lexB .any l.toArray = true)
  (h : (∀ (u : Later w) (b o : Nat), b < w.heap.size → u.now.cell? ⟨b, o, none⟩ = w.cell? ⟨b, o, none⟩) →
   wpQuiet P l.toArray (fun w' => ∃ u : Later w, w' = u.now) (fun a' => ∀ w', Below w.heap.size w w' → Q .normal a' w') l a) : (Code.region id l.toArray true).wp P Q a w := by
 refine wp_region_quiet (C := fun w' => ∃ u : Later w, w' = u.now) hm hB ⟨⟨_, (Below.refl w.heap.size w).drew⟩, rfl⟩ ?_
 have := h (fun u b o hb => u.still.cell (p := ⟨b, o, none⟩) hb)
 have e : (fun a' => ∀ w', (∃ u : Later w, w' = u.now) → Q .normal a' w') = (fun a' => ∀ w', Below w.heap.size w w' → Q .normal a' w') := by
  funext a'
  apply propext
  constructor
  ·intro g w' hw'; exact g w' ⟨⟨w', hw'⟩, rfl⟩
  ·rintro g w' ⟨u, rfl⟩; exact g _ u.still
 rw [e]
 exact this
theorem later_call {P : Program} {f : FuncId} {args : Array Value} {w : World} {u : Later w} {v : Value} (h : Calls P f args u.now fun e w' => e = .returned v ∧ Below u.now.heap.size u.now w') :
  Calls P f args u.now fun e w'' => e = .returned v ∧ ∃ u' : Later w, w'' = u'.now :=
 h.mono fun _ w' hh => ⟨hh.1, ⟨w', u.still.trans (hh.2.mono u.still.size)⟩, rfl⟩
theorem later_same {P : Program} {f : FuncId} {args : Array Value} {w : World} {u : Later w} {v : Value} (h : Calls P f args u.now fun e w' => e = .returned v ∧ u.now = w') :
  Calls P f args u.now fun e w'' => e = .returned v ∧ ∃ u' : Later w, w'' = u'.now :=
 h.mono fun _ w' hh => ⟨hh.1, u, hh.2.symm⟩
end Go.Proofs.Ytfpifahkpkjfgaa
/- What an argument's memory looks like: cells of scalar kinds, rows of structs. Plain words for the walks, and how they are read off the form's own reading. -/
namespace Go.Proofs.Ytfpifahkpkjfgaa
open Go.ChangeShapes Go.WideShapes Go.ChangeAt Go.RowKit
set_option linter.unusedVariables false
/-- the kinds of cells -/
inductive Kd where
 | int (k : IntKind)
 | bool
 | str
def okCell : Kd → Value → Prop
 | .int k, v => ∃ n, v = .int k n ∧ k.min ≤ n ∧ n ≤ k.max
 | .bool, v => ∃ x, v = .bool x
 | .str, v => ∃ s : ByteArray, v = .string s ∧ s.size ≤ 140737488351232
def okAll : List Kd → List Value → Prop
 | [], [] => True
 | k :: ks, v :: vs => okCell k v ∧ okAll ks vs
 | _, _ => False
theorem okAll_len : ∀ {ks : List Kd} {vs : List Value}, okAll ks vs → vs.length = ks.length
 | [], [], _ => rfl
 | _ :: ks, _ :: vs, h => by simp [okAll_len h.2]
 | [], _ :: _, h => h.elim
 | _ :: _, [], h => h.elim
theorem okAll_app : ∀ {ks : List Kd} {vs : List Value} {ks' : List Kd} {vs' : List Value}, okAll ks vs → okAll ks' vs' → okAll (ks ++ ks') (vs ++ vs')
 | [], [], _, _, _, h' => h'
 | _ :: ks, _ :: vs, _, _, h, h' => ⟨h.1, okAll_app h.2 h'⟩
 | [], _ :: _, _, _, h, _ => h.elim
 | _ :: _, [], _, _, h, _ => h.elim
theorem okAll_at : ∀ {ks : List Kd} {vs : List Value} (i : Nat) {k : Kd}, okAll ks vs → ks[i]? = some k → ∃ v, vs[i]? = some v ∧ okCell k v
  | [], [], i, k, _, h => by simp at h
  | _ :: ks, v :: vs, 0, k, h, hk => by simp at hk; subst hk; exact ⟨v, rfl, h.1⟩
  | _ :: ks, v :: vs, i + 1, k, h, hk => by
    obtain ⟨u, hu, ho⟩ := okAll_at i h.2 (by simpa using hk)
    exact ⟨u, by simpa using hu, ho⟩
  | [], _ :: _, _, _, h, _ => h.elim
  | _ :: _, [], _, _, h, _ => h.elim
theorem okAll_one : ∀ {ks : List Kd} {vs : List Value}, okAll ks vs → ∀ v ∈ vs, v.oneCell' = true
  | [], [], _, v, hv => by simp at hv
  | k :: ks, u :: vs, h, v, hv => by
    rcases List.mem_cons.1 hv with rfl | hv
    · have := h.1
      cases k with
      | int k => obtain ⟨n, rfl, _⟩ := this; rfl
      | bool => obtain ⟨x, rfl⟩ := this; rfl
      | str => obtain ⟨s, rfl, _⟩ := this; rfl
    · exact okAll_one h.2 v hv
  | [], _ :: _, h, _, _ => h.elim
  | _ :: _, [], h, _, _ => h.elim
/-- fields that stand one behind the other -/
theorem okAll_fields : ∀ (F : List (List Kd)) (vs : List Value), vs.length = F.flatten.length → (∀ (i : Nat) (ks : List Kd), F[i]? = some ks → okAll ks ((vs.drop (F.take i).flatten.length).take ks.length)) → okAll F.flatten vs
  | [], vs, hl, _ => by
    have : vs = [] := List.eq_nil_of_length_eq_zero (by simpa using hl)
    subst this; trivial
  | ks :: F, vs, hl, h => by
    have h0 := h 0 ks rfl
    simp at h0
    have h1 := okAll_fields F (vs.drop ks.length) (by simp at hl; simp; omega) (fun i k hk => by
      have := h (i + 1) k (by simpa using hk)
      simp at this
      rw [List.drop_drop]
      simpa using this)
    have := okAll_app h0 h1
    rw [List.take_append_drop] at this
    simpa using this
/-- each string and slice in it is small -/
def Small {H : Type} (P : Program) (t : TypeId) (d : DataW H) : Prop := ∀ n ∈ d.weights P t, n ≤ 140737488351232
theorem small_of {H : Type} {P : Program} {ts : List TypeId} {ds : List (DataW H)} (h : (DataW.weightsEach P ts ds).all (· ≤ reachBytes) = true) {j : Nat} {t : TypeId} {d : DataW H} (ht : ts[j]? = some t) (hd : ds[j]? = some d) : Small P t d := by
 intro n hn
 have := List.all_eq_true.1 h _ (DataW.weights_mem_each ht hd n hn)
 have e : reachBytes = 140737488351232 := rfl
 rw [e] at this
 simpa using this
theorem weights_mem_all {H : Type} {P : Program} {e : TypeId} : ∀ {ds : List (DataW H)} {j : Nat} {d : DataW H}, ds[j]? = some d → ∀ n ∈ d.weights P e, n ∈ DataW.weightsAll P e ds
  | d0 :: ds, 0, d, hd, n, hn => by
    simp only [List.getElem?_cons_zero, Option.some.injEq] at hd
    subst hd
    simp only [DataW.weightsAll, List.mem_append]
    exact Or.inl hn
  | d0 :: ds, j + 1, d, hd, n, hn => by
    simp only [List.getElem?_cons_succ] at hd
    simp only [DataW.weightsAll, List.mem_append]
    exact Or.inr (weights_mem_all hd n hn)
  | [], _, _, hd, _, _ => by simp at hd
theorem small_elem {H : Type} {P : Program} {t e : TypeId} {el sp : List (DataW H)} (ht : P.underlying t = some (.slice e)) (h : Small P t (.slice el sp)) {i : Nat} {d : DataW H} (hd : el[i]? = some d) : Small P e d := by
 intro n hn
 refine h n ?_
 simp only [DataW.weights, ht, List.mem_cons, List.mem_append]
 exact .inr (.inl (weights_mem_all hd n hn))
theorem small_field {H : Type} {P : Program} {t : TypeId} {fs : Array Field} {parts : List (DataW H)} (ht : P.underlying t = some (.struct fs)) (h : Small P t (.agg parts)) {i : Nat} {f : Field} {d : DataW H} (hf : fs[i]? = some f) (hd : parts[i]? = some d) : Small P f.type d := by
 intro n hn
 refine h n ?_
 simp only [DataW.weights, ht]
 exact DataW.weights_mem_each (j := i) (t := f.type) (by simp [hf]) hd n hn
section
variable {H : Type} {enc : TypeId × Value → H} {P : Program} {w : World} {base : Nat} {sp : Nat → Bool} {held : Bool} {fuel : Nat} {t : TypeId} {cs : List Value} {x : DataW H × List MemPlace}
theorem trod_ok_int {k : IntKind} (ht : P.underlying t = some (.int k)) (h : DataW.trod enc P w base sp held fuel t cs = some x) : okAll [.int k] cs := by
 obtain ⟨n, rfl, _, hw⟩ := DataW.trod_int ht h
 refine ⟨⟨n, rfl, ?_⟩, trivial⟩
 simpa [Lit.wf] using hw
theorem trod_ok_bool (ht : P.underlying t = some .bool) (h : DataW.trod enc P w base sp held fuel t cs = some x) : okAll [.bool] cs := by
 obtain ⟨n, rfl, _⟩ := DataW.trod_bool ht h
 exact ⟨⟨n, rfl⟩, trivial⟩
theorem trod_ok_str (ht : P.underlying t = some .string) (h : DataW.trod enc P w base sp held fuel t cs = some x) (hw : Small P t x.1) : okAll [.str] cs := by
 obtain ⟨n, rfl, rfl, hs⟩ := DataW.trod_string ht h
 have := hw n.data.toList.length (by simp [DataW.weights])
 exact ⟨⟨n, rfl, by simpa using this⟩, trivial⟩
/-- a struct whose fields read -/
theorem trod_ok_struct {fs : Array Field} (F : List (List Kd)) (ht : P.underlying t = some (.struct fs)) (hn : F.length = fs.size) (hC : P.cellsOf t = F.flatten.length)
  (hf : ∀ (i : Nat) (f : Field) (ks : List Kd), fs[i]? = some f → F[i]? = some ks → f.offset = (F.take i).flatten.length ∧ P.cellsOf f.type = ks.length ∧
   ∀ (n : Nat) (c : List Value) (y : DataW H × List MemPlace), DataW.trod enc P w base sp held n f.type c = some y → Small P f.type y.1 → okAll ks c)
  (h : DataW.trod enc P w base sp held fuel t cs = some x) (hw : Small P t x.1) : okAll F.flatten cs := by
 obtain ⟨xs, n, _, rfl, hl, hxl, hx⟩ := DataW.trod_struct ht h
 refine okAll_fields F cs (by rw [hl, hC]) (fun i ks hk => ?_)
 have hi : i < F.length := (List.getElem?_eq_some_iff.1 hk).1
 have hif : i < fs.size := by omega
 obtain ⟨e1, e2, e3⟩ := hf i fs[i] ks (Array.getElem?_eq_getElem hif) hk
 have hxi : xs[i]? = some xs[i] := List.getElem?_eq_getElem (by omega)
 have := hx i fs[i] (Array.getElem?_eq_getElem hif)
 rw [hxi, e1, e2] at this
 exact e3 _ _ _ this (small_field ht hw (i := i) (f := fs[i]) (Array.getElem?_eq_getElem hif) (by simp [hxi]))
end
theorem range_kept {w w' : World} {b o : Nat} {cs : List Value} (h : w.rangeAt b o cs) (hb : Below w.heap.size w w') : w'.rangeAt b o cs := fun j v hj => keep_cell hb (h j v hj)
theorem there_new (w : World) (C : Array Value) (t : TypeId) (n : Nat) (h : n ≤ C.size) : (w.alloc (.cells C t)).there w.heap.size 0 n := fun j hj => by
 have hnew : (w.alloc (.cells C t)).heap[w.heap.size]? = some (.cells C t) := heap_alloc_new w _
 constructor
 ·rw [Nat.zero_add, cell_of_row _ _ _ _ _ _ hnew, Array.getElem?_eq_getElem (by omega)]; rfl
 ·unfold World.frozen?; rw [hnew]; simp
/-- a variable of one's own, made and filled: what is known of the world then -/
theorem boxed (w : World) (C : Array Value) (t : TypeId) (cs : List Value) (h : cs.length ≤ C.size) :
    Below w.heap.size w ((w.alloc (.cells C t)).setCells w.heap.size 0 cs) ∧ ((w.alloc (.cells C t)).setCells w.heap.size 0 cs).rangeAt w.heap.size 0 cs ∧ w.heap.size < ((w.alloc (.cells C t)).setCells w.heap.size 0 cs).heap.size := by
  have key : ∀ (vs : List Value) (o : Nat) (x : World), Below w.heap.size w x → w.heap.size < x.heap.size → Below w.heap.size w (x.setCells w.heap.size o vs) ∧ w.heap.size < (x.setCells w.heap.size o vs).heap.size := by
    intro vs
    induction vs with
    | nil => intro o x h h'; exact ⟨h, h'⟩
    | cons v r ih =>
      intro o x h h'
      rw [World.setCells]
      exact ih (o + 1) _ (h.setCell (Nat.le_refl _) v) (by simpa [World.setCell] using h')
  have k := key cs 0 (w.alloc (.cells C t)) (below_ca (Below.refl _ _) _) (by simp)
  exact ⟨k.1, World.rangeAt_setCells_same _ _ _ _ (there_new w C t cs.length h), k.2⟩
/-- rows of structs that came in: the slice value '.slice A len cap' -/
structure Rows_ (w : World) (A : Option Addr) (len : Nat) (ks : List Kd) (css : Nat → List Value) : Prop where
 at_ : ∀ i, i < len → ∃ b off, A = some ⟨b, off, none⟩ ∧ w.rangeAt b (off + i * ks.length) (css i)
 ok : ∀ i, i < len → okAll ks (css i)
section
variable {H : Type} {enc : TypeId × Value → H} {P : Program} {w : World} {t e : TypeId} {ks : List Kd} {A : Option Addr} {n c : Nat} {d : DataW H} {ps : List MemPlace} {r : Reach} {b0 : Nat}
theorem spot_of (ht : P.underlying t = some (.slice e)) {a : Addr} (hv : Value.okWide P w r b0 t (.slice (some a) n c)) : a.spot = none := by
 simp only [Value.okWide, ht, Cell.okWide, Cell.ok] at hv
 exact hv.2.2.2.1
end
end Go.Proofs.Ytfpifahkpkjfgaa
/- The structs of package api (and Step) as rows of cells: their kinds, and how they are read. Written by my genstr.py. -/
namespace Go.Proofs.Ytfpifahkpkjfgaa
open Go.ChangeShapes Go.WideShapes Go.ChangeAt Go.RowKit
set_option linter.unusedVariables false
set_option maxRecDepth 100000
def ksPrefix : List Kd := [.int .u32, .int .i64]
section
variable {H : Type} {enc : TypeId × Value → H} {w : World} {base : Nat} {sp : Nat → Bool} {held : Bool}
theorem ok_Prefix {fuel : Nat} {cs : List Value} {x : DataW H × List MemPlace} (h : DataW.trod enc Try.prog w base sp held fuel 62 cs = some x) (hw : Small Try.prog 62 x.1) : okAll ksPrefix cs := by
  refine trod_ok_struct ([[.int .u32], [.int .i64]] : List (List Kd)) Try.underlying62 rfl (by kernel_rfl) ?_ h hw
  intro i f ks hf hk
  match i, hf, hk with
  | 0, hf, hk =>
    obtain rfl : _ = f := Option.some.inj hf
    obtain rfl : _ = ks := Option.some.inj hk
    exact ⟨rfl, by kernel_rfl, fun n c y hh hs => trod_ok_int Try.underlying22 hh⟩
  | 1, hf, hk =>
    obtain rfl : _ = f := Option.some.inj hf
    obtain rfl : _ = ks := Option.some.inj hk
    exact ⟨rfl, by kernel_rfl, fun n c y hh hs => trod_ok_int Try.underlying3 hh⟩
  | i + 2, hf, hk => exact absurd hk (by simp)
end
def ksEnd : List Kd := [.int .u32, .int .i64]
section
variable {H : Type} {enc : TypeId × Value → H} {w : World} {base : Nat} {sp : Nat → Bool} {held : Bool}
theorem ok_End {fuel : Nat} {cs : List Value} {x : DataW H × List MemPlace} (h : DataW.trod enc Try.prog w base sp held fuel 29 cs = some x) (hw : Small Try.prog 29 x.1) : okAll ksEnd cs := by
  refine trod_ok_struct ([[.int .u32], [.int .i64]] : List (List Kd)) Try.underlying29 rfl (by kernel_rfl) ?_ h hw
  intro i f ks hf hk
  match i, hf, hk with
  | 0, hf, hk =>
    obtain rfl : _ = f := Option.some.inj hf
    obtain rfl : _ = ks := Option.some.inj hk
    exact ⟨rfl, by kernel_rfl, fun n c y hh hs => trod_ok_int Try.underlying22 hh⟩
  | 1, hf, hk =>
    obtain rfl : _ = f := Option.some.inj hf
    obtain rfl : _ = ks := Option.some.inj hk
    exact ⟨rfl, by kernel_rfl, fun n c y hh hs => trod_ok_int Try.underlying3 hh⟩
  | i + 2, hf, hk => exact absurd hk (by simp)
end
def ksPacket : List Kd := [.int .u32, .int .u32, .int .i64, .int .i64, .int .i64, .bool, .bool, .int .i64, .str]
section
variable {H : Type} {enc : TypeId × Value → H} {w : World} {base : Nat} {sp : Nat → Bool} {held : Bool}
theorem ok_Packet {fuel : Nat} {cs : List Value} {x : DataW H × List MemPlace} (h : DataW.trod enc Try.prog w base sp held fuel 64 cs = some x) (hw : Small Try.prog 64 x.1) : okAll ksPacket cs := by
  refine trod_ok_struct ([[.int .u32], [.int .u32], [.int .i64], [.int .i64], [.int .i64], [.bool], [.bool], [.int .i64], [.str]] : List (List Kd)) Try.underlying64 rfl (by kernel_rfl) ?_ h hw
  intro i f ks hf hk
  match i, hf, hk with
  | 0, hf, hk =>
    obtain rfl : _ = f := Option.some.inj hf
    obtain rfl : _ = ks := Option.some.inj hk
    exact ⟨rfl, by kernel_rfl, fun n c y hh hs => trod_ok_int Try.underlying22 hh⟩
  | 1, hf, hk =>
    obtain rfl : _ = f := Option.some.inj hf
    obtain rfl : _ = ks := Option.some.inj hk
    exact ⟨rfl, by kernel_rfl, fun n c y hh hs => trod_ok_int Try.underlying22 hh⟩
  | 2, hf, hk =>
    obtain rfl : _ = f := Option.some.inj hf
    obtain rfl : _ = ks := Option.some.inj hk
    exact ⟨rfl, by kernel_rfl, fun n c y hh hs => trod_ok_int Try.underlying3 hh⟩
  | 3, hf, hk =>
    obtain rfl : _ = f := Option.some.inj hf
    obtain rfl : _ = ks := Option.some.inj hk
    exact ⟨rfl, by kernel_rfl, fun n c y hh hs => trod_ok_int Try.underlying3 hh⟩
  | 4, hf, hk =>
    obtain rfl : _ = f := Option.some.inj hf
    obtain rfl : _ = ks := Option.some.inj hk
    exact ⟨rfl, by kernel_rfl, fun n c y hh hs => trod_ok_int Try.underlying3 hh⟩
  | 5, hf, hk =>
    obtain rfl : _ = f := Option.some.inj hf
    obtain rfl : _ = ks := Option.some.inj hk
    exact ⟨rfl, by kernel_rfl, fun n c y hh hs => trod_ok_bool Try.underlying4 hh⟩
  | 6, hf, hk =>
    obtain rfl : _ = f := Option.some.inj hf
    obtain rfl : _ = ks := Option.some.inj hk
    exact ⟨rfl, by kernel_rfl, fun n c y hh hs => trod_ok_bool Try.underlying4 hh⟩
  | 7, hf, hk =>
    obtain rfl : _ = f := Option.some.inj hf
    obtain rfl : _ = ks := Option.some.inj hk
    exact ⟨rfl, by kernel_rfl, fun n c y hh hs => trod_ok_int Try.underlying3 hh⟩
  | 8, hf, hk =>
    obtain rfl : _ = f := Option.some.inj hf
    obtain rfl : _ = ks := Option.some.inj hk
    exact ⟨rfl, by kernel_rfl, fun n c y hh hs => trod_ok_str Try.underlying9 hh hs⟩
  | i + 9, hf, hk => exact absurd hk (by simp)
end
def ksGram : List Kd := [.int .u32, .int .i64, .int .u32, .int .i64, .str]
section
variable {H : Type} {enc : TypeId × Value → H} {w : World} {base : Nat} {sp : Nat → Bool} {held : Bool}
theorem ok_Gram {fuel : Nat} {cs : List Value} {x : DataW H × List MemPlace} (h : DataW.trod enc Try.prog w base sp held fuel 66 cs = some x) (hw : Small Try.prog 66 x.1) : okAll ksGram cs := by
  refine trod_ok_struct ([ksEnd, ksEnd, [.str]] : List (List Kd)) Try.underlying66 rfl (by kernel_rfl) ?_ h hw
  intro i f ks hf hk
  match i, hf, hk with
  | 0, hf, hk =>
    obtain rfl : _ = f := Option.some.inj hf
    obtain rfl : _ = ks := Option.some.inj hk
    exact ⟨rfl, by kernel_rfl, fun n c y hh hs => ok_End hh hs⟩
  | 1, hf, hk =>
    obtain rfl : _ = f := Option.some.inj hf
    obtain rfl : _ = ks := Option.some.inj hk
    exact ⟨rfl, by kernel_rfl, fun n c y hh hs => ok_End hh hs⟩
  | 2, hf, hk =>
    obtain rfl : _ = f := Option.some.inj hf
    obtain rfl : _ = ks := Option.some.inj hk
    exact ⟨rfl, by kernel_rfl, fun n c y hh hs => trod_ok_str Try.underlying9 hh hs⟩
  | i + 3, hf, hk => exact absurd hk (by simp)
end
def ksSeg : List Kd := [.int .u32, .int .i64, .int .u32, .int .i64, .int .u32, .int .u32, .bool, .bool, .bool, .bool, .int .i64, .int .i64, .str]
section
variable {H : Type} {enc : TypeId × Value → H} {w : World} {base : Nat} {sp : Nat → Bool} {held : Bool}
theorem ok_Seg {fuel : Nat} {cs : List Value} {x : DataW H × List MemPlace} (h : DataW.trod enc Try.prog w base sp held fuel 33 cs = some x) (hw : Small Try.prog 33 x.1) : okAll ksSeg cs := by
  refine trod_ok_struct ([ksEnd, ksEnd, [.int .u32], [.int .u32], [.bool], [.bool], [.bool], [.bool], [.int .i64], [.int .i64], [.str]] : List (List Kd)) Try.underlying33 rfl (by kernel_rfl) ?_ h hw
  intro i f ks hf hk
  match i, hf, hk with
  | 0, hf, hk =>
    obtain rfl : _ = f := Option.some.inj hf
    obtain rfl : _ = ks := Option.some.inj hk
    exact ⟨rfl, by kernel_rfl, fun n c y hh hs => ok_End hh hs⟩
  | 1, hf, hk =>
    obtain rfl : _ = f := Option.some.inj hf
    obtain rfl : _ = ks := Option.some.inj hk
    exact ⟨rfl, by kernel_rfl, fun n c y hh hs => ok_End hh hs⟩
  | 2, hf, hk =>
    obtain rfl : _ = f := Option.some.inj hf
    obtain rfl : _ = ks := Option.some.inj hk
    exact ⟨rfl, by kernel_rfl, fun n c y hh hs => trod_ok_int Try.underlying22 hh⟩
  | 3, hf, hk =>
    obtain rfl : _ = f := Option.some.inj hf
    obtain rfl : _ = ks := Option.some.inj hk
    exact ⟨rfl, by kernel_rfl, fun n c y hh hs => trod_ok_int Try.underlying22 hh⟩
  | 4, hf, hk =>
    obtain rfl : _ = f := Option.some.inj hf
    obtain rfl : _ = ks := Option.some.inj hk
    exact ⟨rfl, by kernel_rfl, fun n c y hh hs => trod_ok_bool Try.underlying4 hh⟩
  | 5, hf, hk =>
    obtain rfl : _ = f := Option.some.inj hf
    obtain rfl : _ = ks := Option.some.inj hk
    exact ⟨rfl, by kernel_rfl, fun n c y hh hs => trod_ok_bool Try.underlying4 hh⟩
  | 6, hf, hk =>
    obtain rfl : _ = f := Option.some.inj hf
    obtain rfl : _ = ks := Option.some.inj hk
    exact ⟨rfl, by kernel_rfl, fun n c y hh hs => trod_ok_bool Try.underlying4 hh⟩
  | 7, hf, hk =>
    obtain rfl : _ = f := Option.some.inj hf
    obtain rfl : _ = ks := Option.some.inj hk
    exact ⟨rfl, by kernel_rfl, fun n c y hh hs => trod_ok_bool Try.underlying4 hh⟩
  | 8, hf, hk =>
    obtain rfl : _ = f := Option.some.inj hf
    obtain rfl : _ = ks := Option.some.inj hk
    exact ⟨rfl, by kernel_rfl, fun n c y hh hs => trod_ok_int Try.underlying3 hh⟩
  | 9, hf, hk =>
    obtain rfl : _ = f := Option.some.inj hf
    obtain rfl : _ = ks := Option.some.inj hk
    exact ⟨rfl, by kernel_rfl, fun n c y hh hs => trod_ok_int Try.underlying3 hh⟩
  | 10, hf, hk =>
    obtain rfl : _ = f := Option.some.inj hf
    obtain rfl : _ = ks := Option.some.inj hk
    exact ⟨rfl, by kernel_rfl, fun n c y hh hs => trod_ok_str Try.underlying9 hh hs⟩
  | i + 11, hf, hk => exact absurd hk (by simp)
end
def ksBound : List Kd := [.int .i64, .int .u32, .int .i64, .int .u32, .int .i64, .bool, .int .i64]
section
variable {H : Type} {enc : TypeId × Value → H} {w : World} {base : Nat} {sp : Nat → Bool} {held : Bool}
theorem ok_Bound {fuel : Nat} {cs : List Value} {x : DataW H × List MemPlace} (h : DataW.trod enc Try.prog w base sp held fuel 68 cs = some x) (hw : Small Try.prog 68 x.1) : okAll ksBound cs := by
  refine trod_ok_struct ([[.int .i64], ksEnd, ksEnd, [.bool], [.int .i64]] : List (List Kd)) Try.underlying68 rfl (by kernel_rfl) ?_ h hw
  intro i f ks hf hk
  match i, hf, hk with
  | 0, hf, hk =>
    obtain rfl : _ = f := Option.some.inj hf
    obtain rfl : _ = ks := Option.some.inj hk
    exact ⟨rfl, by kernel_rfl, fun n c y hh hs => trod_ok_int Try.underlying3 hh⟩
  | 1, hf, hk =>
    obtain rfl : _ = f := Option.some.inj hf
    obtain rfl : _ = ks := Option.some.inj hk
    exact ⟨rfl, by kernel_rfl, fun n c y hh hs => ok_End hh hs⟩
  | 2, hf, hk =>
    obtain rfl : _ = f := Option.some.inj hf
    obtain rfl : _ = ks := Option.some.inj hk
    exact ⟨rfl, by kernel_rfl, fun n c y hh hs => ok_End hh hs⟩
  | 3, hf, hk =>
    obtain rfl : _ = f := Option.some.inj hf
    obtain rfl : _ = ks := Option.some.inj hk
    exact ⟨rfl, by kernel_rfl, fun n c y hh hs => trod_ok_bool Try.underlying4 hh⟩
  | 4, hf, hk =>
    obtain rfl : _ = f := Option.some.inj hf
    obtain rfl : _ = ks := Option.some.inj hk
    exact ⟨rfl, by kernel_rfl, fun n c y hh hs => trod_ok_int Try.underlying3 hh⟩
  | i + 5, hf, hk => exact absurd hk (by simp)
end
def ksStep : List Kd := [.int .i64, .int .i64, .int .i64, .bool, .str, .int .u32, .int .i64, .int .u32, .int .u32, .int .i64, .int .i64, .int .i64, .bool, .bool, .int .i64, .str, .int .u32, .int .i64, .int .u32, .int .i64, .int .u32, .int .u32, .bool, .bool, .bool, .bool, .int .i64, .int .i64, .str, .int .u32, .int .i64, .int .u32, .int .i64, .str, .int .u32, .int .i64, .int .u32, .int .i64, .int .i64, .int .u32, .int .i64, .int .u32, .int .i64, .bool, .int .i64]
theorem info_Step : (Try.prog.info? 70).map (·.size) = some 45 := by kernel_rfl
section
variable {H : Type} {enc : TypeId × Value → H} {w : World} {base : Nat} {sp : Nat → Bool} {held : Bool}
theorem ok_Step {fuel : Nat} {cs : List Value} {x : DataW H × List MemPlace} (h : DataW.trod enc Try.prog w base sp held fuel 70 cs = some x) (hw : Small Try.prog 70 x.1) : okAll ksStep cs := by
  refine trod_ok_struct ([[.int .i64], [.int .i64], [.int .i64], [.bool], [.str], ksPrefix, ksPacket, ksSeg, ksGram, ksEnd, ksEnd, ksBound] : List (List Kd)) Try.underlying70 rfl (by kernel_rfl) ?_ h hw
  intro i f ks hf hk
  match i, hf, hk with
  | 0, hf, hk =>
    obtain rfl : _ = f := Option.some.inj hf
    obtain rfl : _ = ks := Option.some.inj hk
    exact ⟨rfl, by kernel_rfl, fun n c y hh hs => trod_ok_int Try.underlying3 hh⟩
  | 1, hf, hk =>
    obtain rfl : _ = f := Option.some.inj hf
    obtain rfl : _ = ks := Option.some.inj hk
    exact ⟨rfl, by kernel_rfl, fun n c y hh hs => trod_ok_int Try.underlying3 hh⟩
  | 2, hf, hk =>
    obtain rfl : _ = f := Option.some.inj hf
    obtain rfl : _ = ks := Option.some.inj hk
    exact ⟨rfl, by kernel_rfl, fun n c y hh hs => trod_ok_int Try.underlying3 hh⟩
  | 3, hf, hk =>
    obtain rfl : _ = f := Option.some.inj hf
    obtain rfl : _ = ks := Option.some.inj hk
    exact ⟨rfl, by kernel_rfl, fun n c y hh hs => trod_ok_bool Try.underlying4 hh⟩
  | 4, hf, hk =>
    obtain rfl : _ = f := Option.some.inj hf
    obtain rfl : _ = ks := Option.some.inj hk
    exact ⟨rfl, by kernel_rfl, fun n c y hh hs => trod_ok_str Try.underlying9 hh hs⟩
  | 5, hf, hk =>
    obtain rfl : _ = f := Option.some.inj hf
    obtain rfl : _ = ks := Option.some.inj hk
    exact ⟨rfl, by kernel_rfl, fun n c y hh hs => ok_Prefix hh hs⟩
  | 6, hf, hk =>
    obtain rfl : _ = f := Option.some.inj hf
    obtain rfl : _ = ks := Option.some.inj hk
    exact ⟨rfl, by kernel_rfl, fun n c y hh hs => ok_Packet hh hs⟩
  | 7, hf, hk =>
    obtain rfl : _ = f := Option.some.inj hf
    obtain rfl : _ = ks := Option.some.inj hk
    exact ⟨rfl, by kernel_rfl, fun n c y hh hs => ok_Seg hh hs⟩
  | 8, hf, hk =>
    obtain rfl : _ = f := Option.some.inj hf
    obtain rfl : _ = ks := Option.some.inj hk
    exact ⟨rfl, by kernel_rfl, fun n c y hh hs => ok_Gram hh hs⟩
  | 9, hf, hk =>
    obtain rfl : _ = f := Option.some.inj hf
    obtain rfl : _ = ks := Option.some.inj hk
    exact ⟨rfl, by kernel_rfl, fun n c y hh hs => ok_End hh hs⟩
  | 10, hf, hk =>
    obtain rfl : _ = f := Option.some.inj hf
    obtain rfl : _ = ks := Option.some.inj hk
    exact ⟨rfl, by kernel_rfl, fun n c y hh hs => ok_End hh hs⟩
  | 11, hf, hk =>
    obtain rfl : _ = f := Option.some.inj hf
    obtain rfl : _ = ks := Option.some.inj hk
    exact ⟨rfl, by kernel_rfl, fun n c y hh hs => ok_Bound hh hs⟩
  | i + 12, hf, hk => exact absurd hk (by simp)
end
end Go.Proofs.Ytfpifahkpkjfgaa
/- The bulk of rows of steps that came in: how many there are, and what their strings hold together. -/
namespace Go.Proofs.Ytfpifahkpkjfgaa
open Go.ChangeShapes Go.WideShapes Go.ChangeAt Go.RowKit
set_option linter.unusedVariables false
/-- the size of a step's string -/
def strZ (cs : List Value) : Nat := match cs[4]? with
 | some (Value.string s) => s.size
 | _ => 0
def sumS (css : Nat → List Value) : Nat → Nat
 | 0 => 0
 | k + 1 => sumS css k + strZ (css k)
theorem strZ_is {cs : List Value} {s : ByteArray} (h : cs[4]? = some (.string s)) : strZ cs = s.size := by
 unfold strZ; rw [h]
theorem bulk_one {H : Type} (d : DataW H) : 1 ≤ Rows.uptoBulk d := by
 cases d with
 | lit l => cases l <;> simp [Rows.uptoBulk]
 | nil => simp [Rows.uptoBulk]
 | ptr d => simp [Rows.uptoBulk]
 | slice elems spare => simp [Rows.uptoBulk]
 | agg parts => simp [Rows.uptoBulk]
 | iface t d => simp [Rows.uptoBulk]
 | map entries => simp [Rows.uptoBulk]
 | held h => simp [Rows.uptoBulk]
theorem bulk_mem {H : Type} {d : DataW H} : ∀ {l : List (DataW H)}, d ∈ l → Rows.uptoBulk d ≤ Rows.uptoBulkAll l
  | [], h => by cases h
  | x :: r, h => by
    simp only [Rows.uptoBulkAll]
    rcases List.mem_cons.1 h with e | e
    · subst e; omega
    · have := bulk_mem e; omega
theorem bulk_app {H : Type} (r : List (DataW H)) : ∀ (l : List (DataW H)), Rows.uptoBulkAll (l ++ r) = Rows.uptoBulkAll l + Rows.uptoBulkAll r
 | [] => by simp [Rows.uptoBulkAll]
 | x :: l => by simp only [List.cons_append, Rows.uptoBulkAll, bulk_app r l]; omega
theorem bulk_len {H : Type} : ∀ (l : List (DataW H)), l.length ≤ Rows.uptoBulkAll l
 | [] => by simp [Rows.uptoBulkAll]
 | x :: r => by have := bulk_one x; have := bulk_len r; simp only [Rows.uptoBulkAll, List.length_cons]; omega
theorem bulk_sum {H : Type} {css : Nat → List Value} {el : List (DataW H)} (h : ∀ i d, el[i]? = some d → strZ (css i) ≤ Rows.uptoBulk d) : ∀ k, k ≤ el.length → sumS css k ≤ Rows.uptoBulkAll el := by
  have h1 : ∀ k, k ≤ el.length → sumS css k ≤ Rows.uptoBulkAll (el.take k) := by
    intro k
    induction k with
    | zero => intro _; exact Nat.zero_le _
    | succ k ih =>
      intro hk
      have hk' : k < el.length := by omega
      have e : el.take (k + 1) = el.take k ++ [el[k]] := by rw [List.take_append_getElem]
      rw [e, bulk_app]
      have h2 := ih (by omega)
      have h3 := h k _ (List.getElem?_eq_getElem hk')
      simp only [sumS, Rows.uptoBulkAll]
      omega
  intro k hk
  have h2 := h1 k hk
  have h3 : Rows.uptoBulkAll el = Rows.uptoBulkAll (el.take k) + Rows.uptoBulkAll (el.drop k) := by rw [← bulk_app, List.take_append_drop]
  omega
section
variable {H : Type} {enc : TypeId × Value → H}
set_option maxRecDepth 100000 in
theorem bulk_step {w : World} {base : Nat} {sp : Nat → Bool} {held : Bool} {fuel : Nat} {cs : List Value} {x : DataW H × List MemPlace} (h : DataW.trod enc Try.prog w base sp held fuel 70 cs = some x) : strZ cs ≤ Rows.uptoBulk x.1 := by
 obtain ⟨xs, n, _, rfl, hl, hxl, hx⟩ := DataW.trod_struct Try.underlying70 h
 have hsz : xs.length = 12 := by rw [hxl]; rfl
 have h4 := hx 4 _ rfl
 have hx4 : xs[4]? = some xs[4] := List.getElem?_eq_getElem (by omega)
 rw [hx4] at h4
 obtain ⟨s, hc, hd, -⟩ := DataW.trod_string Try.underlying9 h4
 have hm : xs[4].1 ∈ xs.map (·.1) := List.mem_map.2 ⟨xs[4], List.getElem_mem _, rfl⟩
 have hz : strZ cs = s.size := by
  refine strZ_is ?_
  have h1 : ((cs.drop 4).take 1)[0]? = some (.string s) := by
   have e : (cs.drop 4).take 1 = [.string s] := hc
   rw [e]; rfl
  rw [List.getElem?_take] at h1
  simpa using h1
 have hb := bulk_mem hm
 have he : Rows.uptoBulk xs[4].1 = s.size + 1 := by
  rw [hd]
  simp [Rows.uptoBulk]
 rw [hz]
 show s.size ≤ Rows.uptoBulk (DataW.agg (xs.map (·.1)))
 simp only [Rows.uptoBulk]
 omega
variable {P : Program} {w : World} {t e : TypeId} {ks : List Kd} {A : Option Addr} {n c : Nat} {d : DataW H} {ps : List MemPlace} {r : Reach} {b0 : Nat}
theorem rows_open2 (ht : P.underlying t = some (.slice e)) (hC : P.cellsOf e = ks.length) (hok : ∀ fuel cs x, DataW.trod enc P w 0 (fun _ => true) true fuel e cs = some x → Small P e x.1 → okAll ks cs)
  (hv : Value.okWide P w r b0 t (.slice A n c)) (h : DataW.Trod enc P w 0 (fun _ => true) true t (.slice A n c) d ps) (hw : Small P t d) :
  ∃ css, Rows_ w A n ks css ∧ (n = 0 ∨ ∃ el sp, d = .slice el sp ∧ el.length = n ∧ ∀ i y, el[i]? = some y → ∃ fuel x, DataW.trod enc P w 0 (fun _ => true) true fuel e (css i) = some x ∧ x.1 = y) := by
 obtain ⟨fuel, hf⟩ := h
 rcases Deep.open_slice ht hf with ⟨hcs, _⟩ | ⟨a, len, cap, m, k, D, Pl, hcs, _, hl, hm, hmm, hx, hi⟩
 ·simp [Value.cells] at hcs
  obtain ⟨rfl, rfl, rfl⟩ := hcs
  exact ⟨fun _ => [], ⟨fun i h => absurd h (by omega), fun i h => absurd h (by omega)⟩, .inl rfl⟩
 ·simp [Value.cells] at hcs
  obtain ⟨rfl, rfl, rfl⟩ := hcs
  have hsp := spot_of ht hv
  obtain ⟨b, off, spot⟩ := a
  simp only at hsp
  subst hsp
  have hle : n ≤ m := by rw [hmm]; split <;> omega
  have hch : ∀ i, ∃ cs', i < n → w.cells? 0 ((⟨b, off, none⟩ : Addr).add (i * P.cellsOf e)) (P.cellsOf e) = some cs' ∧ DataW.trod enc P w 0 (fun _ => true) true k e cs' = some (D i, Pl i) := by
   intro i
   by_cases hi2 : i < n
   ·obtain ⟨cs', h1, h2⟩ := hi i (by omega)
    exact ⟨cs', fun _ => ⟨h1, h2⟩⟩
   ·exact ⟨[], fun h => absurd h hi2⟩
  refine ⟨fun i => (hch i).choose, ⟨fun i hi2 => ⟨b, off, rfl, ?_⟩, fun i hi2 => ?_⟩, .inr ⟨_, _, by simpa using congrArg (·.1) hx, by simp, fun i y hy => ?_⟩⟩
  ·have h1 := ((hch i).choose_spec hi2).1
   obtain ⟨_, hlen, hcell⟩ := World.cells?_some h1
   intro j v hj
   have hj2 : j < P.cellsOf e := by
    have := (List.getElem?_eq_some_iff.1 hj).1
    omega
   have := hcell j hj2
   rw [hj, Addr.add_mid, Addr.add_mid, hC] at this
   exact this
  ·refine hok _ _ _ ((hch i).choose_spec hi2).2 ?_
   have hd : d = _ := congrArg (·.1) hx
   rw [hd] at hw
   exact small_elem ht hw (i := i) (by simp [hi2])
  ·have hi2 : i < n := by
    have := (List.getElem?_eq_some_iff.1 hy).1
    simpa using this
   refine ⟨k, _, ((hch i).choose_spec hi2).2, ?_⟩
   simp [hi2] at hy
   exact hy
theorem rows_bulk {css : Nat → List Value} {el sp : List (DataW H)} (hd : ∀ i y, el[i]? = some y → ∃ fuel x, DataW.trod enc Try.prog w 0 (fun _ => true) true fuel 70 (css i) = some x ∧ x.1 = y) {l : List (DataW H)} (hm : DataW.slice el sp ∈ l) (hk : Rows.uptoSmall H l = true) : el.length ≤ 1048576 ∧ ∀ k, k ≤ el.length → sumS css k ≤ 1048576 := by
 have h1 : Rows.uptoBulkAll l ≤ 1048576 := of_decide_eq_true hk
 have h2 := bulk_mem hm
 have h3 : Rows.uptoBulk (DataW.slice el sp) = Rows.uptoBulkAll el + Rows.uptoBulkAll sp + 1 := by simp only [Rows.uptoBulk]
 have h4 := bulk_len el
 have h5 := bulk_sum (el := el) (css := css) (fun i d hi => by
  obtain ⟨fuel, x, hx, rfl⟩ := hd i d hi
  exact bulk_step hx)
 exact ⟨by omega, fun k hk => by have := h5 k hk; omega⟩
end
end Go.Proofs.Ytfpifahkpkjfgaa
