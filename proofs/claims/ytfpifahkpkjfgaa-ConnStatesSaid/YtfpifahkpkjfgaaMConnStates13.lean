/- What ConnStates needs, part 13: Row, Sl, Hand. -/
import Derived.Lib.SliceRun
import Derived.Test.YtfpifahkpkjfgaaMConnStates3
import Derived.Test.YtfpifahkpkjfgaaMConnStates5
/- Rows of structs in memory of the call's own: one more appended, one read. -/
namespace Go.Proofs.Ytfpifahkpkjfgaa
open Go.RowKit
set_option linter.unusedVariables false

/-- structs r of rs, each as the cells f r, in the slice v -/
def rowR {α : Type} (size : Nat) (f : α → List Value) (v : Value) (rs : List α) : Res := winR 0 size v rs.length (rs.flatMap f)
theorem fill_fold (l : List Value) : ∀ (k : Nat) (A : Array Value), k + l.length ≤ A.size → ((l.zipIdx k).foldl (fun (cs : Array Value) (x : Value × Nat) => cs.setIfInBounds (0 + x.2) x.1) A).toList = A.toList.take k ++ (l ++ A.toList.drop (k + l.length)) := by
  induction l with
  | nil => intro k A h; simp
  | cons v l ih =>
    intro k A h
    rw [List.length_cons] at h
    rw [List.zipIdx_cons, List.foldl_cons, ih (k + 1) _ (by simpa using (by omega : k + 1 + l.length ≤ A.size))]
    simp only [Nat.zero_add, Array.toList_setIfInBounds, List.length_cons]
    have hk : k < A.toList.length := by simp; omega
    rw [List.take_add_one, List.getElem?_set_self hk, List.take_set_of_le (by omega), List.drop_set_of_lt (by omega)]
    simp only [Option.toList_some, List.append_assoc, List.cons_append, List.nil_append]
    rw [show k + 1 + l.length = k + (l.length + 1) by omega]
theorem run_buildSlice1 {P : Program} (w : World) (T e : TypeId) (v z : Value) (cs : List Value) (hT : P.underlying T = some (.slice e)) (hv : v.cells = cs.toArray) (hz : ∀ W, (zeroValue e).run P W = .ok z W) (hzs : z.cells.size = cs.length) (hi : (P.info? e).map (·.size) = some cs.length) (hs : cs.length ≤ 1000) (hpos : 0 < cs.length) :
    (Instr.buildSlice T 1 #[(0, v)]).run P w = .ok (.slice (some ⟨w.heap.size, 0, none⟩) 1 1) (w.alloc (.cells cs.toArray e)) := by
  obtain ⟨i, hi1, hi2⟩ : ∃ i, P.info? e = some i ∧ i.size = cs.length := by
    cases h : P.info? e with
    | none => rw [h] at hi; cases hi
    | some i => rw [h] at hi; exact ⟨i, rfl, Option.some.inj hi⟩
  have hA : ∀ A : Array Value, A.size = cs.length → Instr.fill (fun i => some (i * cs.length, cs.length)) A [(0, v)] = some cs.toArray := by
    intro A hAs
    unfold Instr.fill
    simp only [hv, List.size_toArray, Nat.zero_mul, Nat.zero_add, hAs]
    rw [if_neg (by simp)]
    unfold Instr.fill
    congr 1
    apply Array.ext'
    rw [← Array.foldl_toList, Array.toList_zipIdx]
    have := fill_fold cs 0 A (by omega)
    simp only [Nat.zero_add] at this
    rw [this]
    have h0 : A.toList.drop cs.length = [] := by simp; omega
    rw [h0]; simp
  unfold Instr.buildSlice
  simp only [Sem.run_bind, run_underlying hT w, Result.andThen_ok]
  have hso : (sizeOf e).run P w = .ok cs.length w := by simp [sizeOf, typeInfo, hi1, hi2]
  simp only [hso, Result.andThen_ok]
  rw [if_neg (by omega), if_neg (by omega)]
  simp only [Sem.run_bind, hz, Sem.run_pure, Result.andThen_ok, hA _ (show ((Array.range (1 * cs.length)).map (z.cells[· % z.cells.size]!)).size = cs.length by simp)]
  simp only [newRow, Sem.run_bind, run_newObj_alloc, Sem.run_pure, Result.andThen_ok]
section
variable {E : Nat → Prop} {P : Program} {ops : Array Oper} {rest : List Oper} {op : Oper} {a : Act} {w0 w : World} {Q : Exit → Act → World → Prop} {l : List Res}
theorem at_bslice_ {d : Option Tmp} {T ty : TypeId} {m : Nat} {xs : Array (Nat × Operand)} {ps : String} {af : Array Edge} {g : Option (Nat × Bool)} (h : wpList P ops Q ({ dst := d, op := .buildSlice T m xs, type := ty, pos := ps, after := af, guard := g } :: rest) a w) : wpList P ops Q ({ dst := d, op := .buildSlice T m xs, type := ty, pos := ps, after := af, guard := g } :: rest) a w := h
theorem at_append_ {d : Option Tmp} {T ty : TypeId} {x y : Operand} {ps : String} {af : Array Edge} {g : Option (Nat × Bool)} (h : wpList P ops Q ({ dst := d, op := .call { callee := .builtin .append, args := #[x, y], argTypes := #[T, T] }, type := ty, pos := ps, after := af, guard := g } :: rest) a w) : wpList P ops Q ({ dst := d, op := .call { callee := .builtin .append, args := #[x, y], argTypes := #[T, T] }, type := ty, pos := ps, after := af, guard := g } :: rest) a w := h
/-- a slice of one -/
theorem wpList_bslice_mem (hgd : op.guard = none) (T e : TypeId) (x : Operand) (ho : op.op = .buildSlice T 1 #[(0, x)]) (hT : P.underlying T = some (.slice e)) (z : Value) (hz : ∀ W, (zeroValue e).run P W = .ok z W) (cs : List Value) (hx : (a.eval x).cells = cs.toArray) (hzs : z.cells.size = cs.length) (hi : (P.info? e).map (·.size) = some cs.length) (hs : cs.length ≤ 1000) (hpos : 0 < cs.length) (hM : MemX E w0 w l)
    (h : ∀ g W, MemX E w0 W (l ++ [atR g e cs]) → wpList P ops Q rest (a.put op.dst (.slice (some ⟨g, 0, none⟩) 1 1)) W) : wpList P ops Q (op :: rest) a w :=
  wpList_plain hgd fun K hK => by
    have hr := run_buildSlice1 (P := P) w T e (a.eval x) z cs hT hx hz hzs hi hs hpos
    unfold Oper.wp execOp
    simp only [ho, List.map_toArray, List.map_cons, List.map_nil, hr, Sem.run_bind, Sem.run_pure, Result.andThen_ok]
    exact hK _ _ (h _ _ (hM.atNew e cs))
/-- one more -/
theorem wpList_append_row {α : Type} {f : α → List Value} {size : Nat} (hgd : op.guard = none) (s x : Operand) (t e : TypeId) (ho : op.op = .call { callee := .builtin .append, args := #[s, x], argTypes := #[t, t] }) (ht : P.underlying t = some (.slice e))
    (bytes : Nat) (he : (P.info? e).map (fun i => (i.size, i.bytes, i.zero.map (·.cells.size))) = some (size, bytes, some size)) (hsz : 0 < size)
    (k j g : Nat) (v : Value) (rs : List α) (r : α) (hM : MemX E w0 w l) (hk : l[k]? = some (rowR size f v rs)) (hj : l[j]? = some (atR g e (f r))) (hs : a.eval s = v) (c : Nat) (hx : a.eval x = .slice (some ⟨g, 0, none⟩) 1 c)
    (hl : (f r).length = size) (h1 : ∀ u ∈ f r, u.oneCell' = true) (hb : (rs.length + 1) * bytes ≤ 140737488355328) (hb2 : rs.length + 1 ≤ maxLen)
    (h : ∀ v' W, MemX E w0 W (l.set k (rowR size f v' (rs ++ [r]))) → wpList P ops Q rest (a.put op.dst v') W) : wpList P ops Q (op :: rest) a w := by
  obtain ⟨i, z, i0, i1, i2, i3, i4⟩ := elem_of he
  have hV : Win w 0 size v rs.length (rs.flatMap f) := hM.win_ k hk
  have hA := hM.at_ j hj
  refine wpList_append_win hgd s x t ho 0 e i z size bytes ht i0 i1 i2 i3 i4 hsz v rs.length _ hs hV ⟨g, 0, none⟩ 1 c (f r) hx (by rw [hl, Nat.one_mul]) hA.news h1 (by decide) hb2 hb (Nat.zero_le _) ?_
  intro v' W hV' hO hat
  refine h v' W (hM.upd k hk hO (winR_stab _ _ _ _ _) (by
    show Win W 0 size v' (rs ++ [r]).length ((rs ++ [r]).flatMap f)
    rw [List.length_append, List.flatMap_append]
    simpa using hV') (fun j' hj' => ⟨?_, (hV'.lt j' hj').2⟩))
  have hj2 : v'.ownBlock = some j' := hj'
  rcases hat with e1 | ⟨m, e1, hm⟩
  · left; show v.ownBlock = some j'; rw [← e1]; exact hj2
  · right; rw [e1] at hj2; cases hj2; exact hm
theorem rows_at {α : Type} {f : α → List Value} {size : Nat} (hf : ∀ r, (f r).length = size) : ∀ (rs : List α) (i : Nat) (r : α), rs[i]? = some r → ∀ j, j < size → (rs.flatMap f)[i * size + j]? = (f r)[j]?
  | [], i, r, h, j, hj => by simp at h
  | q :: rs, 0, r, h, j, hj => by
    simp at h; subst h
    rw [List.flatMap_cons, Nat.zero_mul, Nat.zero_add, List.getElem?_append_left (by rw [hf]; exact hj)]
  | q :: rs, i + 1, r, h, j, hj => by
    rw [List.flatMap_cons, List.getElem?_append_right (by rw [hf, Nat.add_mul]; omega), hf, show (i + 1) * size + j - size = i * size + j by rw [Nat.add_mul]; omega]
    exact rows_at hf rs i r (by simpa using h) j hj
/-- one of a row, as it lies there -/
theorem row_range {α : Type} {f : α → List Value} {size g off n cap : Nat} {rs : List α} {W : World} (hf : ∀ r, (f r).length = size) (h : Win W 0 size (.slice (some ⟨g, off, none⟩) n cap) rs.length (rs.flatMap f)) (i : Nat) (r : α) (hi : rs[i]? = some r) : W.rangeAt g (off + i * size) (f r) := by
  obtain ⟨g', off', cap', e, hW⟩ := h.pos (by have := (List.getElem?_eq_some_iff.1 hi).1; omega)
  injection e with e1 e2 e3
  injection e1 with e1
  injection e1 with e4 e5 _
  subst e4; subst e5
  intro j v hj
  have hjs : j < size := by have := (List.getElem?_eq_some_iff.1 hj).1; rw [hf] at this; exact this
  rw [Nat.add_assoc]
  refine hW.here (i * size + j) v ?_
  rw [rows_at hf rs i r hi j hjs]; exact hj
theorem MemX.row {α : Type} {f : α → List Value} {size : Nat} {v : Value} {rs : List α} (h : MemX E w0 w l) (k : Nat) (hk : l[k]? = some (rowR size f v rs)) : Win w 0 size v rs.length (rs.flatMap f) := h.win_ k hk
theorem MemX.rowNil {α : Type} (h : MemX E w0 w l) (size : Nat) (f : α → List Value) : MemX E w0 w (l ++ [rowR size f (.slice none 0 0) []]) := h.winNil 0 size
/-- a struct of a row read -/
theorem wpList_load_row {α : Type} {f : α → List Value} {size g off n cap : Nat} {rs : List α} (hgd : op.guard = none) (T : TypeId) (x : Operand) (ho : op.op = .load T x) (k i : Nat) (r : α) (hM : MemX E w0 w l) (hk : l[k]? = some (rowR size f (.slice (some ⟨g, off, none⟩) n cap) rs)) (hr : rs[i]? = some r) (hx : a.eval x = .pointer (some ⟨g, off + i * size, none⟩))
    (hf : ∀ r, (f r).length = size) (d : TypeDesc) (hu : P.underlying T = some d) (hd : d.isRow = true) (hi : (P.info? T).map (·.size) = some (f r).length)
    (h : wpList P ops Q rest (a.put op.dst (.agg (f r).toArray)) w) : wpList P ops Q (op :: rest) a w :=
  wpList_load_mid hgd T x ho g (off + i * size) hx (f r) d (row_range hf (hM.row k hk) i r hr) hu hd hi h
/-- a struct of its own, as a row of one -/
theorem MemX.one {α : Type} {f : α → List Value} {size : Nat} {g : Nat} {t : TypeId} (h : MemX E w0 w l) (k : Nat) (r : α) (hk : l[k]? = some (atR g t (f r))) (hl : (f r).length = size) : MemX E w0 w (l.set k (rowR size f (.slice (some ⟨g, 0, none⟩) 1 1) [r])) := by
  have hA := h.at_ k hk
  refine h.upd k hk (World.grownBy.refl _ _) (winR_stab _ _ _ _ _) ?_ (fun j hj => ?_)
  · show Win w 0 size _ 1 ([r].flatMap f)
    have e : [r].flatMap f = f r := by simp
    rw [e]
    refine ⟨by omega, .inr ⟨g, 0, 1, rfl, Nat.zero_le _, hA.lt, Nat.le_refl _, by simp [maxLen], fun j u hj => ?_, fun j hj => by simp at hj, fun j hj => hA.free _⟩⟩
    rw [Nat.zero_add, hA.cell]; exact hj
  · have hj' : some g = some j := hj
    exact ⟨.inl hj', by have := hA.lt; cases hj'; exact this⟩
/-- one of them alone -/
theorem MemX.sel1 {r : Res} (h : MemX E w0 w l) (k : Nat) (hk : l[k]? = some r) : MemX E w0 w [r] := by
  have hm := List.mem_of_getElem? hk
  refine ⟨h.fr, fun q hq => ?_, fun q hq => ?_, fun q hq => ?_, fun i j hij a b hi hj => ?_⟩
  · obtain rfl := List.mem_singleton.1 hq; exact h.p _ hm
  · obtain rfl := List.mem_singleton.1 hq; exact h.s _ hm
  · obtain rfl := List.mem_singleton.1 hq; exact h.lo _ hm
  · have h1 := (List.getElem?_eq_some_iff.1 hi).1
    have h2 := (List.getElem?_eq_some_iff.1 hj).1
    simp at h1 h2; omega
/-- what a call gives back as memory of its own, among what is known -/
theorem MemX.join {w' : World} {r : Res} (h : MemX E w0 w l) (h' : MemX noE w w' [r]) : MemX E w0 w' (l ++ [r]) :=
  h.push h'.b (h'.s r (by simp)) (h'.p r (by simp)) (fun g hg => by
    have := h'.lo r (by simp) g hg
    exact ⟨this.1.resolve_right (fun e => e), this.2⟩)
end
end Go.Proofs.Ytfpifahkpkjfgaa
/- What package slices does to a row of one's own: an element taken out, the spare cells cleared. -/
namespace Go.Proofs.Ytfpifahkpkjfgaa
open Go.RowKit
set_option linter.unusedVariables false

section
variable {P : Program} {w w' : World} {base size g off cap n : Nat} {cs : List Value}
theorem WinAt.cellAt (h : WinAt w base size g off cap n cs) (hcs : cs.length = n * size) (j : Nat) (hj : j < cap * size) : (w.cell? ⟨g, off + j, none⟩).isSome = true ∧ w.frozen? ⟨g, off + j, none⟩ = false := by
  by_cases hlt : j < n * size
  · exact ⟨by rw [h.here j cs[j] (List.getElem?_eq_getElem (by omega))]; rfl, h.soft j hlt⟩
  · have hle := Nat.mul_le_mul_right size h.le
    have := h.spare (j - n * size) (by rw [Nat.sub_mul]; omega)
    rwa [show off + n * size + (j - n * size) = off + j by omega] at this
/-- the element k taken out by append(s[:k], s[k+1:]...) -/
theorem run_append_del (t e ty : TypeId) (i : TypeInfo) (ht : P.underlying t = some (.slice e)) (hi : P.info? e = some i) (hsize : i.size = size) (h : WinAt w base size g off cap n cs) (hcs : cs.length = n * size) (h1 : ∀ u ∈ cs, u.oneCell' = true) (k c : Nat) (hk : k < n) (a : Addr) (ha : a = ⟨g, off + (k + 1) * size, none⟩ ∨ n = k + 1) :
    ∃ w', (Builtin.append_ #[t, t] ty #[.slice (some ⟨g, off, none⟩) k cap, .slice (some a) (n - (k + 1)) c]).run P w = .ok (.slice (some ⟨g, off, none⟩) (n - 1) cap) w' ∧ WinAt w' base size g off cap (n - 1) (cs.take (k * size) ++ cs.drop ((k + 1) * size)) ∧ w.grownBy w' (some g) := by
  subst hsize
  have hk1 : (k + 1) * i.size = k * i.size + i.size := by rw [Nat.add_mul, Nat.one_mul]
  have hnk : (n - (k + 1)) * i.size = n * i.size - (k * i.size + i.size) := by rw [Nat.sub_mul, hk1]
  have hn1 : (n - 1) * i.size = n * i.size - i.size := by rw [Nat.sub_mul, Nat.one_mul]
  have hle : k * i.size + i.size ≤ n * i.size := by rw [← hk1]; exact Nat.mul_le_mul_right _ hk
  have hcap : n * i.size ≤ cap * i.size := Nat.mul_le_mul_right _ h.le
  have hl : (cs.drop ((k + 1) * i.size)).length = (n - (k + 1)) * i.size := by rw [List.length_drop, hcs, hnk, hk1]
  have hcl : ∀ j, j < (cs.drop ((k + 1) * i.size)).length → (w.cell? ⟨g, off + k * i.size + j, none⟩).isSome = true ∧ w.frozen? ⟨g, off + k * i.size + j, none⟩ = false := fun j hj => by
    rw [Nat.add_assoc]
    exact h.cellAt hcs _ (by rw [hl, hnk] at hj; omega)
  have hr := run_append_room_cells (P := P) w t ty e i ht hi g off k cap a (n - (k + 1)) c (cs.drop ((k + 1) * i.size)) hl (fun j u hj => by
    rcases ha with rfl | h0
    · rw [List.getElem?_drop] at hj
      rw [Addr.add_mid, Nat.add_assoc]
      exact h.here _ u hj
    · have : j < (cs.drop ((k + 1) * i.size)).length := (List.getElem?_eq_some_iff.1 hj).1
      rw [hl, h0] at this
      simp at this) (fun u hu => h1 u (List.mem_of_mem_drop hu)) (by have := h.le; omega) (fun j hj => (hcl j hj).1) (fun j hj => (hcl j hj).2)
  rw [show k + (n - (k + 1)) = n - 1 by omega] at hr
  have hg := setCells_grownBy g (cs.drop ((k + 1) * i.size)) (off + k * i.size) w
  refine ⟨_, hr, ⟨h.ge, Nat.lt_of_lt_of_le h.lt hg.size, by have := h.le; omega, h.mx, fun j u hj => ?_, fun j hj => ?_, fun j hj => ?_⟩, hg⟩
  · have htk : (cs.take (k * i.size)).length = k * i.size := by rw [List.length_take, hcs]; omega
    by_cases hlt : j < k * i.size
    · rw [List.getElem?_append_left (by omega), List.getElem?_take, if_pos hlt] at hj
      rw [World.cell?_setCells_out g _ _ w _ (fun _ _ => .inl (by show off + j < _; omega))]
      exact h.here j u hj
    · rw [List.getElem?_append_right (by omega), htk] at hj
      have hj' : j - k * i.size < (cs.drop ((k + 1) * i.size)).length := (List.getElem?_eq_some_iff.1 hj).1
      have := World.cell?_setCells_in g (cs.drop ((k + 1) * i.size)) (off + k * i.size) w (fun j hj => (hcl j hj).1) (j - k * i.size) hj'
      rw [show off + k * i.size + (j - k * i.size) = off + j by omega] at this
      rw [this, ← hj, List.getElem?_eq_getElem hj']
  · have e1 : off + (n - 1) * i.size + j = off + k * i.size + ((n - 1) * i.size - k * i.size + j) := by omega
    rw [Nat.sub_mul, hn1] at hj
    refine ⟨?_, by rw [World.frozen?_setCells]; rw [Nat.add_assoc]; exact (h.cellAt hcs _ (by omega)).2⟩
    rw [World.cell?_setCells_out g _ _ w _ (fun _ _ => .inr (by show off + k * i.size + (cs.drop ((k + 1) * i.size)).length ≤ off + (n - 1) * i.size + j; rw [hl, hnk]; omega))]
    rw [Nat.add_assoc]; exact (h.cellAt hcs _ (by omega)).1
  · rw [World.frozen?_setCells]; exact (h.cellAt hcs _ (by rw [hn1] at hj; omega)).2
theorem run_append_del' {m : Nat} (t e ty : TypeId) (i : TypeInfo) (ht : P.underlying t = some (.slice e)) (hi : P.info? e = some i) (hsize : i.size = size) (h : WinAt w base size g off cap (m + 1) cs) (hcs : cs.length = (m + 1) * size) (h1 : ∀ u ∈ cs, u.oneCell' = true) (k c : Nat) (hk : k ≤ m) (a : Addr) (ha : a = ⟨g, off + (k + 1) * size, none⟩ ∨ m = k) {cs' : List Value} (he : cs.take (k * size) ++ cs.drop ((k + 1) * size) = cs') :
    ∃ w', (Builtin.append_ #[t, t] ty #[.slice (some ⟨g, off, none⟩) k cap, .slice (some a) (m - k) c]).run P w = .ok (.slice (some ⟨g, off, none⟩) m cap) w' ∧ WinAt w' base size g off cap m cs' ∧ w.grownBy w' (some g) := by
  have := run_append_del t e ty i ht hi hsize h hcs h1 k c (by omega) a (ha.imp id (fun e => by rw [e]))
  rw [Nat.add_sub_cancel, Nat.add_sub_add_right, he] at this
  exact this
/-- clear over spare cells -/
theorem run_clear_win (t e ty : TypeId) (z : Value) (ht : P.underlying t = some (.slice e)) (hv : ∀ w, (zeroValue e).run P w = .ok z w) (hz : z.cells.size = size) (hsz : 0 < size) (h1 : ∀ v ∈ z.cells, v.oneCell' = true) (h : WinAt w base size g off cap n cs) (hcs : cs.length = n * size) (q c : Nat) (hq : 0 < q) (hqc : n + q ≤ cap) :
    ∃ w', (Builtin.clear_ #[t] ty #[.slice (some ⟨g, off + n * size, none⟩) q c]).run P w = .ok (.tuple #[]) w' ∧ WinAt w' base size g off cap n cs ∧ w.grownBy w' (some g) := by
  have hlen : (Builtin.zeroCells z.cells q).toList.length = q * size := by simp [Builtin.zeroCells, hz]
  have hone : ∀ v ∈ (Builtin.zeroCells z.cells q).toList, v.oneCell' = true := fun v hv' => by
    simp only [Builtin.zeroCells, Array.toList_map, List.mem_map] at hv'
    obtain ⟨i, _, rfl⟩ := hv'
    have hlt : i % z.cells.size < z.cells.size := Nat.mod_lt _ (by omega)
    rw [getElem!_pos z.cells _ hlt]
    exact h1 _ (Array.getElem_mem hlt)
  have hsp : ∀ j, j < q * size → (w.cell? ⟨g, off + n * size + j, none⟩).isSome = true ∧ w.frozen? ⟨g, off + n * size + j, none⟩ = false := fun j hj =>
    h.spare j (Nat.lt_of_lt_of_le hj (Nat.mul_le_mul_right _ (by omega)))
  have hst := run_storeCells_cells (P := P) g (off + n * size) (Builtin.zeroCells z.cells q).toList 0 w (fun j hj => by simpa using (hsp j (by omega)).1) (fun j hj => by simpa using (hsp j (by omega)).2) hone
  simp only [Nat.add_zero] at hst
  have hg := setCells_grownBy g (Builtin.zeroCells z.cells q).toList (off + n * size) w
  refine ⟨w.setCells g (off + n * size) (Builtin.zeroCells z.cells q).toList, ?_, ⟨h.ge, Nat.lt_of_lt_of_le h.lt hg.size, h.le, h.mx, fun j u hj => ?_, fun j hj => ?_, fun j hj => by rw [World.frozen?_setCells]; exact h.soft j hj⟩, hg⟩
  · obtain ⟨m, rfl⟩ : ∃ m, q = m + 1 := ⟨q - 1, by omega⟩
    simp [Builtin.clear_, run_underlying ht, hv, hst]
  · have hjl : j < n * size := by rw [← hcs]; exact (List.getElem?_eq_some_iff.1 hj).1
    rw [World.cell?_setCells_out g _ _ w _ (fun _ _ => .inl (by show off + j < off + n * size; omega))]
    exact h.here j u hj
  · refine ⟨?_, by rw [World.frozen?_setCells]; exact (h.spare j hj).2⟩
    by_cases hlt : j < (Builtin.zeroCells z.cells q).toList.length
    · rw [World.cell?_setCells_in g _ (off + n * size) w (fun j hj => (hsp j (by omega)).1) j hlt]; rfl
    · rw [World.cell?_setCells_out g _ _ w _ (fun _ _ => .inr (by show off + n * size + _ ≤ off + n * size + j; omega))]
      exact (h.spare j hj).1
end
section
variable {P : Program} {w : World} {ops : Array Oper} {rest : List Oper} {o : Oper} {a : Act} {Q : Exit → Act → World → Prop}
theorem wpList_append_run (hgd : o.guard = none) (s x : Operand) (t u : TypeId) (ho : o.op = .call { callee := .builtin .append, args := #[s, x], argTypes := #[t, u] }) (vs vx : Value) (hs : a.eval s = vs) (hx : a.eval x = vx) (v' : Value) (w' : World)
    (hr : (Builtin.append_ #[t, u] o.type #[vs, vx]).run P w = .ok v' w') (h : wpList P ops Q rest (a.put o.dst v') w') : wpList P ops Q (o :: rest) a w := by
  refine wpList_plain hgd fun K hK => ?_
  unfold Oper.wp execOp
  simp only [ho, resolve, invoke, builtin, Sem.run_bind, Sem.run_pure, Result.andThen_ok, List.map_toArray, List.map_cons, List.map_nil, hs, hx, hr]
  exact hK _ _ h
theorem wpList_clear_run (hgd : o.guard = none) (x : Operand) (t : TypeId) (ho : o.op = .call { callee := .builtin .clear, args := #[x], argTypes := #[t] }) (vx : Value) (hx : a.eval x = vx) (v' : Value) (w' : World)
    (hr : (Builtin.clear_ #[t] o.type #[vx]).run P w = .ok v' w') (h : wpList P ops Q rest (a.put o.dst v') w') : wpList P ops Q (o :: rest) a w := by
  refine wpList_plain hgd fun K hK => ?_
  unfold Oper.wp execOp
  simp only [ho, resolve, invoke, builtin, Sem.run_bind, Sem.run_pure, Result.andThen_ok, List.map_toArray, List.map_cons, List.map_nil, hx, hr]
  exact hK _ _ h
end
theorem erase_flat {α : Type} {f : α → List Value} {size : Nat} (hf : ∀ r, (f r).length = size) : ∀ (rs : List α) (k : Nat), k < rs.length → (rs.flatMap f).take (k * size) ++ (rs.flatMap f).drop ((k + 1) * size) = (rs.eraseIdx k).flatMap f
  | [], k, h => by simp at h
  | r :: rs, 0, h => by
    rw [List.flatMap_cons, Nat.zero_mul, List.take_zero, List.nil_append, List.eraseIdx_cons_zero, Nat.zero_add, Nat.one_mul, List.drop_left' (hf r)]
  | r :: rs, k + 1, h => by
    have ih := erase_flat hf rs k (by simpa using h)
    rw [List.flatMap_cons, List.eraseIdx_cons_succ, List.flatMap_cons, ← ih]
    rw [show (k + 1) * size = size + k * size by rw [Nat.add_mul]; omega, show (k + 1 + 1) * size = size + (size + k * size) by simp only [Nat.add_mul]; omega]
    rw [List.take_append, List.drop_append, hf, List.take_of_length_le (by rw [hf]; omega), List.drop_eq_nil_of_le (by rw [hf]; omega), List.nil_append, List.append_assoc]
    congr 3
    · omega
    · omega
/-- the first place at which p holds, or -1 -/
def idxOf {α : Type} (p : α → Bool) : List α → Int
  | [] => -1
  | r :: rs => if p r then 0 else if idxOf p rs < 0 then -1 else idxOf p rs + 1
theorem idxOf_lo {α : Type} (p : α → Bool) : ∀ rs : List α, -1 ≤ idxOf p rs ∧ idxOf p rs < rs.length
  | [] => by simp [idxOf]
  | r :: rs => by
    have := idxOf_lo p rs
    unfold idxOf
    rw [List.length_cons]
    split
    · omega
    · split <;> omega
theorem idxOf_hit {α : Type} (p : α → Bool) : ∀ (rs : List α) (k : Nat) (r : α), rs[k]? = some r → p r = true → (∀ j q, j < k → rs[j]? = some q → p q = false) → idxOf p rs = k
  | [], k, r, h, _, _ => by simp at h
  | q :: rs, 0, r, h, hp, _ => by simp at h; subst h; simp [idxOf, hp]
  | q :: rs, k + 1, r, h, hp, hb => by
    have h0 := hb 0 q (by omega) (by simp)
    have ih := idxOf_hit p rs k r (by simpa using h) hp (fun j x hj hx => hb (j + 1) x (by omega) (by simpa using hx))
    unfold idxOf
    rw [h0, ih, if_neg (by simp), if_neg (by omega)]; omega
theorem idxOf_none {α : Type} (p : α → Bool) : ∀ (rs : List α), (∀ r ∈ rs, p r = false) → idxOf p rs = -1
  | [], _ => rfl
  | q :: rs, h => by
    unfold idxOf
    rw [h q (by simp), idxOf_none p rs (fun r hr => h r (by simp [hr]))]; simp
theorem idxOf_some {α : Type} (p : α → Bool) : ∀ (rs : List α), 0 ≤ idxOf p rs → ∃ (k : Nat) (r : α), idxOf p rs = k ∧ rs[k]? = some r ∧ p r = true
  | [], h => by simp [idxOf] at h
  | q :: rs, h => by
    unfold idxOf at h ⊢
    by_cases hq : p q = true
    · exact ⟨0, q, by rw [if_pos hq]; rfl, rfl, hq⟩
    · rw [if_neg hq] at h ⊢
      by_cases h0 : idxOf p rs < 0
      · rw [if_pos h0] at h; omega
      · rw [if_neg h0]
        obtain ⟨k, r, h1, h2, h3⟩ := idxOf_some p rs (by omega)
        exact ⟨k + 1, r, by rw [h1]; rfl, by simpa using h2, h3⟩
theorem idxOf_neg {α : Type} (p : α → Bool) : ∀ (rs : List α), idxOf p rs < 0 → ∀ r ∈ rs, p r = false
  | [], _, r, hr => by simp at hr
  | q :: rs, h, r, hr => by
    unfold idxOf at h
    by_cases hq : p q = true
    · rw [if_pos hq] at h; omega
    · rw [if_neg hq] at h
      by_cases h0 : idxOf p rs < 0
      · rcases List.mem_cons.1 hr with rfl | hr
        · simpa using hq
        · exact idxOf_neg p rs h0 r hr
      · rw [if_neg h0] at h; omega
end Go.Proofs.Ytfpifahkpkjfgaa
/- What a call is handed of what is known (the first things of the list), and what comes back. -/
namespace Go.Proofs.Ytfpifahkpkjfgaa
open Go.RowKit
set_option linter.unusedVariables false

/-- the blocks of these things -/
def blkE (a : List Res) : Nat → Prop := fun g => ∃ r ∈ a, r.blk = some g
section
variable {E : Nat → Prop} {w W W' : World} {a b a' : List Res}
theorem MemX.hand (h : MemX E w W (a ++ b)) : MemX (blkE a) W W a := by
  refine ⟨Fr.refl _ _, fun r hr => h.p r (List.mem_append_left _ hr), fun r hr => h.s r (List.mem_append_left _ hr), fun r hr g hg => ⟨.inr ⟨r, hr, hg⟩, (h.lo r (List.mem_append_left _ hr) g hg).2⟩, fun i j hij r q hi hj => ?_⟩
  have hil := (List.getElem?_eq_some_iff.1 hi).1
  have hjl := (List.getElem?_eq_some_iff.1 hj).1
  exact h.ne i j hij r q (by rw [List.getElem?_append_left hil]; exact hi) (by rw [List.getElem?_append_left hjl]; exact hj)
theorem MemX.back (h : MemX E w W (a ++ b)) (h' : MemX (blkE a) W W' a') : MemX E w W' (a' ++ b) := by
  have hnb : ∀ r ∈ b, ∀ g, r.blk = some g → ¬ blkE a g := fun r hr g hg ⟨q, hq, hqg⟩ => by
    obtain ⟨i, hi⟩ := List.getElem?_of_mem hq
    obtain ⟨j, hj⟩ := List.getElem?_of_mem hr
    have hil := (List.getElem?_eq_some_iff.1 hi).1
    refine h.ne i (a.length + j) (by omega) q r (by rw [List.getElem?_append_left hil]; exact hi) ?_ g hqg hg
    rw [List.getElem?_append_right (by omega), Nat.add_sub_cancel_left]; exact hj
  have hE : ∀ g, blkE a g → w.heap.size ≤ g ∨ E g := fun g ⟨q, hq, hqg⟩ => (h.lo q (List.mem_append_left _ hq) g hqg).1
  have hlo : ∀ r ∈ a', ∀ g, r.blk = some g → (w.heap.size ≤ g ∨ E g) ∧ g < W'.heap.size := fun r hr g hg => by
    have := h'.lo r hr g hg
    exact ⟨this.1.elim (fun h1 => .inl (Nat.le_trans h.fr.size h1)) (hE g), this.2⟩
  have hap : ∀ r ∈ a', ∀ q ∈ b, ∀ g, r.blk = some g → q.blk ≠ some g := fun r hr q hq g hg hqg => by
    have h1 := h'.lo r hr g hg
    have h2 := (h.lo q (List.mem_append_right _ hq) g hqg).2
    rcases h1.1 with h3 | h3
    · omega
    · exact hnb q hq g hqg h3
  refine ⟨⟨h'.fr.os.trans h.fr.os, h'.fr.tape.trans h.fr.tape, h'.fr.output.trans h.fr.output, Nat.le_trans h.fr.size h'.fr.size, fun k hk hn => ?_⟩, ?_, ?_, ?_, ?_⟩
  · refine (h'.fr.block k (Nat.lt_of_lt_of_le hk h.fr.size) (fun e => ?_)).trans (h.fr.block k hk hn)
    rcases hE k e with h1 | h1
    · omega
    · exact hn h1
  · intro r hr
    rcases List.mem_append.1 hr with hr | hr
    · exact h'.p r hr
    · exact h.s r (List.mem_append_right _ hr) W W' (h.p r (List.mem_append_right _ hr)) h'.fr.size (fun g hg => h'.fr.block g (h.lo r (List.mem_append_right _ hr) g hg).2 (hnb r hr g hg))
  · intro r hr
    rcases List.mem_append.1 hr with hr | hr
    · exact h'.s r hr
    · exact h.s r (List.mem_append_right _ hr)
  · intro r hr g hg
    rcases List.mem_append.1 hr with hr | hr
    · exact hlo r hr g hg
    · have := h.lo r (List.mem_append_right _ hr) g hg
      exact ⟨this.1, Nat.lt_of_lt_of_le this.2 h'.fr.size⟩
  · intro i j hij r q hi hj g hg
    have key : ∀ (m : Nat) (x : Res), (a' ++ b)[m]? = some x → (m < a'.length ∧ a'[m]? = some x) ∨ (a'.length ≤ m ∧ b[m - a'.length]? = some x) := fun m x hx => by
      by_cases hm : m < a'.length
      · rw [List.getElem?_append_left hm] at hx; exact .inl ⟨hm, hx⟩
      · rw [List.getElem?_append_right (by omega)] at hx; exact .inr ⟨by omega, hx⟩
    rcases key i r hi with ⟨i1, i2⟩ | ⟨i1, i2⟩
    · rcases key j q hj with ⟨j1, j2⟩ | ⟨j1, j2⟩
      · exact h'.ne i j hij r q i2 j2 g hg
      · exact hap r (List.mem_of_getElem? i2) q (List.mem_of_getElem? j2) g hg
    · rcases key j q hj with ⟨j1, j2⟩ | ⟨j1, j2⟩
      · exact fun e => hap q (List.mem_of_getElem? j2) r (List.mem_of_getElem? i2) g e hg
      · have ib := (List.getElem?_eq_some_iff.1 i2).1
        have jb := (List.getElem?_eq_some_iff.1 j2).1
        exact h.ne (a.length + (i - a'.length)) (a.length + (j - a'.length)) (by omega) r q (by rw [List.getElem?_append_right (by omega), Nat.add_sub_cancel_left]; exact i2) (by rw [List.getElem?_append_right (by omega), Nat.add_sub_cancel_left]; exact j2) g hg
/-- two lists of things, the first one made by a call -/
theorem MemX.new_ (h : MemX E w W b) (h' : MemX noE W W' a') : MemX E w W' (a' ++ b) := by
  have : MemX E w W ([] ++ b) := h
  refine this.back (a := []) ⟨⟨h'.fr.os, h'.fr.tape, h'.fr.output, h'.fr.size, fun k hk hn => h'.fr.block k hk (fun e => e)⟩, h'.p, h'.s, fun r hr g hg => ?_, h'.ne⟩
  have := h'.lo r hr g hg
  exact ⟨.inl (this.1.resolve_right (fun e => e)), this.2⟩
/-- in another order -/
theorem MemX.perm {l l' : List Res} (h : MemX E w W l) (hp : l.Perm l') : MemX E w W l' := by
  have hpw : ∀ {m : List Res}, (∀ (i j : Nat), i ≠ j → ∀ (r q : Res), m[i]? = some r → m[j]? = some q → ∀ g, r.blk = some g → q.blk ≠ some g) ↔ m.Pairwise (fun r q => ∀ g, r.blk = some g → q.blk ≠ some g) := fun {m} => by
    rw [List.pairwise_iff_getElem]
    constructor
    · intro h i j hi hj hij
      exact h i j (by omega) _ _ (List.getElem?_eq_getElem hi) (List.getElem?_eq_getElem hj)
    · intro h i j hij r q hi hj g hg hqg
      obtain ⟨i1, rfl⟩ := List.getElem?_eq_some_iff.1 hi
      obtain ⟨j1, rfl⟩ := List.getElem?_eq_some_iff.1 hj
      rcases Nat.lt_or_gt_of_ne hij with h1 | h1
      · exact h i j i1 j1 h1 g hg hqg
      · exact h j i j1 i1 h1 g hqg hg
  refine ⟨h.fr, fun r hr => h.p r (hp.mem_iff.2 hr), fun r hr => h.s r (hp.mem_iff.2 hr), fun r hr => h.lo r (hp.mem_iff.2 hr), hpw.2 ?_⟩
  exact (hp.pairwise_iff (fun {r q} hrq g hg hqg => hrq g hqg hg)).1 (hpw.1 h.ne)
/-- fewer of them, from the other end -/
theorem MemX.drop_ (h : MemX E w W (a ++ b)) : MemX E w W b := by
  have := h.perm (List.perm_append_comm (l₁ := a) (l₂ := b))
  have := this.take_ b.length
  rwa [List.take_left] at this
end
end Go.Proofs.Ytfpifahkpkjfgaa
