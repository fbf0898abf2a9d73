/- Rows of structs in memory of the call's own: one more appended, one read. -/
import Derived.Test.YtamckbjckgpniaaDoorTy
namespace Go.Proofs.YtamckbjckgpniaaDoor
open Go.RowKit
set_option linter.unusedVariables false

/-- structs r of rs, each as the cells f r, in the slice v -/
def rowR {α : Type} (size : Nat) (f : α → List Value) (v : Value) (rs : List α) : Res := winR 0 size v rs.length (rs.flatMap f)
theorem fill_fold (l : List Value) : ∀ (k : Nat) (A : Array Value), k + l.length ≤ A.size → ((l.zipIdx k).foldl (fun (cs : Array Value) (x : Value × Nat) => cs.setIfInBounds (0 + x.2) x.1) A).toList = A.toList.take k ++ (l ++ A.toList.drop (k + l.length)) := by
  induction l with
  | nil => intro k A h; simp
  | cons v l ih =>
    intro k A h
    rw [List.length_cons] at h
    rw [List.zipIdx_cons, List.foldl_cons, ih (k + 1) _ (by simpa using (by omega : k + 1 + l.length ≤ A.size))]
    simp only [Nat.zero_add, Array.toList_setIfInBounds, List.length_cons]
    have hk : k < A.toList.length := by simp; omega
    rw [List.take_add_one, List.getElem?_set_self hk, List.take_set_of_le (by omega), List.drop_set_of_lt (by omega)]
    simp only [Option.toList_some, List.append_assoc, List.cons_append, List.nil_append]
    rw [show k + 1 + l.length = k + (l.length + 1) by omega]
theorem run_buildSlice1 {P : Program} (w : World) (T e : TypeId) (v z : Value) (cs : List Value) (hT : P.underlying T = some (.slice e)) (hv : v.cells = cs.toArray) (hz : ∀ W, (zeroValue e).run P W = .ok z W) (hzs : z.cells.size = cs.length) (hi : (P.info? e).map (·.size) = some cs.length) (hs : cs.length ≤ 1000) (hpos : 0 < cs.length) :
    (Instr.buildSlice T 1 #[(0, v)]).run P w = .ok (.slice (some ⟨w.heap.size, 0, none⟩) 1 1) (w.alloc (.cells cs.toArray e)) := by
  obtain ⟨i, hi1, hi2⟩ : ∃ i, P.info? e = some i ∧ i.size = cs.length := by
    cases h : P.info? e with
    | none => rw [h] at hi; cases hi
    | some i => rw [h] at hi; exact ⟨i, rfl, Option.some.inj hi⟩
  have hA : ∀ A : Array Value, A.size = cs.length → Instr.fill (fun i => some (i * cs.length, cs.length)) A [(0, v)] = some cs.toArray := by
    intro A hAs
    unfold Instr.fill
    simp only [hv, List.size_toArray, Nat.zero_mul, Nat.zero_add, hAs]
    rw [if_neg (by simp)]
    unfold Instr.fill
    congr 1
    apply Array.ext'
    rw [← Array.foldl_toList, Array.toList_zipIdx]
    have := fill_fold cs 0 A (by omega)
    simp only [Nat.zero_add] at this
    rw [this]
    have h0 : A.toList.drop cs.length = [] := by simp; omega
    rw [h0]; simp
  unfold Instr.buildSlice
  simp only [Sem.run_bind, run_underlying hT w, Result.andThen_ok]
  have hso : (sizeOf e).run P w = .ok cs.length w := by simp [sizeOf, typeInfo, hi1, hi2]
  simp only [hso, Result.andThen_ok]
  rw [if_neg (by omega), if_neg (by omega)]
  simp only [Sem.run_bind, hz, Sem.run_pure, Result.andThen_ok, hA _ (show ((Array.range (1 * cs.length)).map (z.cells[· % z.cells.size]!)).size = cs.length by simp)]
  simp only [newRow, Sem.run_bind, run_newObj_alloc, Sem.run_pure, Result.andThen_ok]
section
variable {E : Nat → Prop} {P : Program} {ops : Array Oper} {rest : List Oper} {op : Oper} {a : Act} {w0 w : World} {Q : Exit → Act → World → Prop} {l : List Res}
theorem at_bslice_ {d : Option Tmp} {T ty : TypeId} {m : Nat} {xs : Array (Nat × Operand)} {ps : String} {af : Array Edge} {g : Option (Nat × Bool)} (h : wpList P ops Q ({ dst := d, op := .buildSlice T m xs, type := ty, pos := ps, after := af, guard := g } :: rest) a w) : wpList P ops Q ({ dst := d, op := .buildSlice T m xs, type := ty, pos := ps, after := af, guard := g } :: rest) a w := h
theorem at_append_ {d : Option Tmp} {T ty : TypeId} {x y : Operand} {ps : String} {af : Array Edge} {g : Option (Nat × Bool)} (h : wpList P ops Q ({ dst := d, op := .call { callee := .builtin .append, args := #[x, y], argTypes := #[T, T] }, type := ty, pos := ps, after := af, guard := g } :: rest) a w) : wpList P ops Q ({ dst := d, op := .call { callee := .builtin .append, args := #[x, y], argTypes := #[T, T] }, type := ty, pos := ps, after := af, guard := g } :: rest) a w := h
/-- a slice of one -/
theorem wpList_bslice_mem (hgd : op.guard = none) (T e : TypeId) (x : Operand) (ho : op.op = .buildSlice T 1 #[(0, x)]) (hT : P.underlying T = some (.slice e)) (z : Value) (hz : ∀ W, (zeroValue e).run P W = .ok z W) (cs : List Value) (hx : (a.eval x).cells = cs.toArray) (hzs : z.cells.size = cs.length) (hi : (P.info? e).map (·.size) = some cs.length) (hs : cs.length ≤ 1000) (hpos : 0 < cs.length) (hM : MemX E w0 w l)
    (h : ∀ g W, MemX E w0 W (l ++ [atR g e cs]) → wpList P ops Q rest (a.put op.dst (.slice (some ⟨g, 0, none⟩) 1 1)) W) : wpList P ops Q (op :: rest) a w :=
  wpList_plain hgd fun K hK => by
    have hr := run_buildSlice1 (P := P) w T e (a.eval x) z cs hT hx hz hzs hi hs hpos
    unfold Oper.wp execOp
    simp only [ho, List.map_toArray, List.map_cons, List.map_nil, hr, Sem.run_bind, Sem.run_pure, Result.andThen_ok]
    exact hK _ _ (h _ _ (hM.atNew e cs))
/-- one more -/
theorem wpList_append_row {α : Type} {f : α → List Value} {size : Nat} (hgd : op.guard = none) (s x : Operand) (t e : TypeId) (ho : op.op = .call { callee := .builtin .append, args := #[s, x], argTypes := #[t, t] }) (ht : P.underlying t = some (.slice e))
    (bytes : Nat) (he : (P.info? e).map (fun i => (i.size, i.bytes, i.zero.map (·.cells.size))) = some (size, bytes, some size)) (hsz : 0 < size)
    (k j g : Nat) (v : Value) (rs : List α) (r : α) (hM : MemX E w0 w l) (hk : l[k]? = some (rowR size f v rs)) (hj : l[j]? = some (atR g e (f r))) (hs : a.eval s = v) (c : Nat) (hx : a.eval x = .slice (some ⟨g, 0, none⟩) 1 c)
    (hl : (f r).length = size) (h1 : ∀ u ∈ f r, u.oneCell' = true) (hb : (rs.length + 1) * bytes ≤ 140737488355328) (hb2 : rs.length + 1 ≤ maxLen)
    (h : ∀ v' W, MemX E w0 W (l.set k (rowR size f v' (rs ++ [r]))) → wpList P ops Q rest (a.put op.dst v') W) : wpList P ops Q (op :: rest) a w := by
  obtain ⟨i, z, i0, i1, i2, i3, i4⟩ := elem_of he
  have hV : Win w 0 size v rs.length (rs.flatMap f) := hM.win_ k hk
  have hA := hM.at_ j hj
  refine wpList_append_win hgd s x t ho 0 e i z size bytes ht i0 i1 i2 i3 i4 hsz v rs.length _ hs hV ⟨g, 0, none⟩ 1 c (f r) hx (by rw [hl, Nat.one_mul]) hA.news h1 (by decide) hb2 hb (Nat.zero_le _) ?_
  intro v' W hV' hO hat
  refine h v' W (hM.upd k hk hO (winR_stab _ _ _ _ _) (by
    show Win W 0 size v' (rs ++ [r]).length ((rs ++ [r]).flatMap f)
    rw [List.length_append, List.flatMap_append]
    simpa using hV') (fun j' hj' => ⟨?_, (hV'.lt j' hj').2⟩))
  have hj2 : v'.ownBlock = some j' := hj'
  rcases hat with e1 | ⟨m, e1, hm⟩
  · left; show v.ownBlock = some j'; rw [← e1]; exact hj2
  · right; rw [e1] at hj2; cases hj2; exact hm
theorem rows_at {α : Type} {f : α → List Value} {size : Nat} (hf : ∀ r, (f r).length = size) : ∀ (rs : List α) (i : Nat) (r : α), rs[i]? = some r → ∀ j, j < size → (rs.flatMap f)[i * size + j]? = (f r)[j]?
  | [], i, r, h, j, hj => by simp at h
  | q :: rs, 0, r, h, j, hj => by
    simp at h; subst h
    rw [List.flatMap_cons, Nat.zero_mul, Nat.zero_add, List.getElem?_append_left (by rw [hf]; exact hj)]
  | q :: rs, i + 1, r, h, j, hj => by
    rw [List.flatMap_cons, List.getElem?_append_right (by rw [hf, Nat.add_mul]; omega), hf, show (i + 1) * size + j - size = i * size + j by rw [Nat.add_mul]; omega]
    exact rows_at hf rs i r (by simpa using h) j hj
/-- one of a row, as it lies there -/
theorem row_range {α : Type} {f : α → List Value} {size g off n cap : Nat} {rs : List α} {W : World} (hf : ∀ r, (f r).length = size) (h : Win W 0 size (.slice (some ⟨g, off, none⟩) n cap) rs.length (rs.flatMap f)) (i : Nat) (r : α) (hi : rs[i]? = some r) : W.rangeAt g (off + i * size) (f r) := by
  obtain ⟨g', off', cap', e, hW⟩ := h.pos (by have := (List.getElem?_eq_some_iff.1 hi).1; omega)
  injection e with e1 e2 e3
  injection e1 with e1
  injection e1 with e4 e5 _
  subst e4; subst e5
  intro j v hj
  have hjs : j < size := by have := (List.getElem?_eq_some_iff.1 hj).1; rw [hf] at this; exact this
  rw [Nat.add_assoc]
  refine hW.here (i * size + j) v ?_
  rw [rows_at hf rs i r hi j hjs]; exact hj
theorem MemX.row {α : Type} {f : α → List Value} {size : Nat} {v : Value} {rs : List α} (h : MemX E w0 w l) (k : Nat) (hk : l[k]? = some (rowR size f v rs)) : Win w 0 size v rs.length (rs.flatMap f) := h.win_ k hk
theorem MemX.rowNil {α : Type} (h : MemX E w0 w l) (size : Nat) (f : α → List Value) : MemX E w0 w (l ++ [rowR size f (.slice none 0 0) []]) := h.winNil 0 size
/-- a struct of a row read -/
theorem wpList_load_row {α : Type} {f : α → List Value} {size g off n cap : Nat} {rs : List α} (hgd : op.guard = none) (T : TypeId) (x : Operand) (ho : op.op = .load T x) (k i : Nat) (r : α) (hM : MemX E w0 w l) (hk : l[k]? = some (rowR size f (.slice (some ⟨g, off, none⟩) n cap) rs)) (hr : rs[i]? = some r) (hx : a.eval x = .pointer (some ⟨g, off + i * size, none⟩))
    (hf : ∀ r, (f r).length = size) (d : TypeDesc) (hu : P.underlying T = some d) (hd : d.isRow = true) (hi : (P.info? T).map (·.size) = some (f r).length)
    (h : wpList P ops Q rest (a.put op.dst (.agg (f r).toArray)) w) : wpList P ops Q (op :: rest) a w :=
  wpList_load_mid hgd T x ho g (off + i * size) hx (f r) d (row_range hf (hM.row k hk) i r hr) hu hd hi h
/-- a struct of its own, as a row of one -/
theorem MemX.one {α : Type} {f : α → List Value} {size : Nat} {g : Nat} {t : TypeId} (h : MemX E w0 w l) (k : Nat) (r : α) (hk : l[k]? = some (atR g t (f r))) (hl : (f r).length = size) : MemX E w0 w (l.set k (rowR size f (.slice (some ⟨g, 0, none⟩) 1 1) [r])) := by
  have hA := h.at_ k hk
  refine h.upd k hk (World.grownBy.refl _ _) (winR_stab _ _ _ _ _) ?_ (fun j hj => ?_)
  · show Win w 0 size _ 1 ([r].flatMap f)
    have e : [r].flatMap f = f r := by simp
    rw [e]
    refine ⟨by omega, .inr ⟨g, 0, 1, rfl, Nat.zero_le _, hA.lt, Nat.le_refl _, by simp [maxLen], fun j u hj => ?_, fun j hj => by simp at hj, fun j hj => hA.free _⟩⟩
    rw [Nat.zero_add, hA.cell]; exact hj
  · have hj' : some g = some j := hj
    exact ⟨.inl hj', by have := hA.lt; cases hj'; exact this⟩
/-- one of them alone -/
theorem MemX.sel1 {r : Res} (h : MemX E w0 w l) (k : Nat) (hk : l[k]? = some r) : MemX E w0 w [r] := by
  have hm := List.mem_of_getElem? hk
  refine ⟨h.fr, fun q hq => ?_, fun q hq => ?_, fun q hq => ?_, fun i j hij a b hi hj => ?_⟩
  · obtain rfl := List.mem_singleton.1 hq; exact h.p _ hm
  · obtain rfl := List.mem_singleton.1 hq; exact h.s _ hm
  · obtain rfl := List.mem_singleton.1 hq; exact h.lo _ hm
  · have h1 := (List.getElem?_eq_some_iff.1 hi).1
    have h2 := (List.getElem?_eq_some_iff.1 hj).1
    simp at h1 h2; omega
/-- what a call gives back as memory of its own, among what is known -/
theorem MemX.join {w' : World} {r : Res} (h : MemX E w0 w l) (h' : MemX noE w w' [r]) : MemX E w0 w' (l ++ [r]) :=
  h.push h'.b (h'.s r (by simp)) (h'.p r (by simp)) (fun g hg => by
    have := h'.lo r (by simp) g hg
    exact ⟨this.1.resolve_right (fun e => e), this.2⟩)
end
end Go.Proofs.YtamckbjckgpniaaDoor
