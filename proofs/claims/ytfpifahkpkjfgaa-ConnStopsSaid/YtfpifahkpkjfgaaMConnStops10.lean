/- What ConnStops needs, a part: Row, Sl, Hand, SlR, RowS, Ord, ShO. -/
import Derived.Lib.SliceRun
import Derived.Orders
import Derived.Test.YtfpifahkpkjfgaaMConnStops3
namespace Go.Proofs.Ytfpifahkpkjfgaa
open Go.RowKit
set_option linter.unusedVariables false
def rowR {α : Type} (size : Nat) (f : α → List Value) (v : Value) (rs : List α) : Res := winR 0 size v rs.length (rs.flatMap f)
theorem fill_fold (l : List Value) : ∀ (k : Nat) (A : Array Value), k + l.length ≤ A.size → ((l.zipIdx k).foldl (fun (cs : Array Value) (x : Value × Nat) => cs.setIfInBounds (0 + x.2) x.1) A).toList = A.toList.take k ++ (l ++ A.toList.drop (k + l.length)) := by
  induction l with
  | nil => intro k A h; simp
  | cons v l ih =>
    intro k A h
    rw [List.length_cons] at h
    rw [List.zipIdx_cons, List.foldl_cons, ih (k + 1) _ (by simpa using (by omega : k + 1 + l.length ≤ A.size))]
    simp only [Nat.zero_add, Array.toList_setIfInBounds, List.length_cons]
    have hk : k < A.toList.length := by simp; omega
    rw [List.take_add_one, List.getElem?_set_self hk, List.take_set_of_le (by omega), List.drop_set_of_lt (by omega)]
    simp only [Option.toList_some, List.append_assoc, List.cons_append, List.nil_append]
    rw [show k + 1 + l.length = k + (l.length + 1) by omega]
theorem run_buildSlice1 {P : Program} (w : World) (T e : TypeId) (v z : Value) (cs : List Value) (hT : P.underlying T = some (.slice e)) (hv : v.cells = cs.toArray) (hz : ∀ W, (zeroValue e).run P W = .ok z W) (hzs : z.cells.size = cs.length) (hi : (P.info? e).map (·.size) = some cs.length) (hs : cs.length ≤ 1000) (hpos : 0 < cs.length) :
  (Instr.buildSlice T 1 #[(0, v)]).run P w = .ok (.slice (some ⟨w.heap.size, 0, none⟩) 1 1) (w.alloc (.cells cs.toArray e)) := by
 obtain ⟨i, hi1, hi2⟩ : ∃ i, P.info? e = some i ∧ i.size = cs.length := by
  cases h : P.info? e with
  | none => rw [h] at hi; cases hi
  | some i => rw [h] at hi; exact ⟨i, rfl, Option.some.inj hi⟩
 have hA : ∀ A : Array Value, A.size = cs.length → Instr.fill (fun i => some (i * cs.length, cs.length)) A [(0, v)] = some cs.toArray := by
  intro A hAs
  unfold Instr.fill
  simp only [hv, List.size_toArray, Nat.zero_mul, Nat.zero_add, hAs]
  rw [if_neg (by simp)]
  unfold Instr.fill
  congr 1
  apply Array.ext'
  rw [← Array.foldl_toList, Array.toList_zipIdx]
  have := fill_fold cs 0 A (by omega)
  simp only [Nat.zero_add] at this
  rw [this]
  have h0 : A.toList.drop cs.length = [] := by simp; omega
  rw [h0]; simp
 unfold Instr.buildSlice
 simp only [Sem.run_bind, run_underlying hT w, Result.andThen_ok]
 have hso : (sizeOf e).run P w = .ok cs.length w := by simp [sizeOf, typeInfo, hi1, hi2]
 simp only [hso, Result.andThen_ok]
 rw [if_neg (by omega), if_neg (by omega)]
 simp only [Sem.run_bind, hz, Sem.run_pure, Result.andThen_ok, hA _ (show ((Array.range (1 * cs.length)).map (z.cells[· % z.cells.size]!)).size = cs.length by simp)]
 simp only [newRow, Sem.run_bind, run_newObj_alloc, Sem.run_pure, Result.andThen_ok]
section
variable {E : Nat → Prop} {P : Program} {ops : Array Oper} {rest : List Oper} {op : Oper} {a : Act} {w0 w : World} {Q : Exit → Act → World → Prop} {l : List Res}
theorem at_bslice_ {d : Option Tmp} {T ty : TypeId} {m : Nat} {xs : Array (Nat × Operand)} {ps : String} {af : Array Edge} {g : Option (Nat × Bool)} (h : wpList P ops Q ({ dst := d, op := .buildSlice T m xs, type := ty, pos := ps, after := af, guard := g } :: rest) a w) : wpList P ops Q ({ dst := d, op := .buildSlice T m xs, type := ty, pos := ps, after := af, guard := g } :: rest) a w := h
theorem at_append_ {d : Option Tmp} {T ty : TypeId} {x y : Operand} {ps : String} {af : Array Edge} {g : Option (Nat × Bool)} (h : wpList P ops Q ({ dst := d, op := .call { callee := .builtin .append, args := #[x, y], argTypes := #[T, T] }, type := ty, pos := ps, after := af, guard := g } :: rest) a w) : wpList P ops Q ({ dst := d, op := .call { callee := .builtin .append, args := #[x, y], argTypes := #[T, T] }, type := ty, pos := ps, after := af, guard := g } :: rest) a w := h
theorem wpList_bslice_mem (hgd : op.guard = none) (T e : TypeId) (x : Operand) (ho : op.op = .buildSlice T 1 #[(0, x)]) (hT : P.underlying T = some (.slice e)) (z : Value) (hz : ∀ W, (zeroValue e).run P W = .ok z W) (cs : List Value) (hx : (a.eval x).cells = cs.toArray) (hzs : z.cells.size = cs.length) (hi : (P.info? e).map (·.size) = some cs.length) (hs : cs.length ≤ 1000) (hpos : 0 < cs.length) (hM : MemX E w0 w l)
  (h : ∀ g W, MemX E w0 W (l ++ [atR g e cs]) → wpList P ops Q rest (a.put op.dst (.slice (some ⟨g, 0, none⟩) 1 1)) W) : wpList P ops Q (op :: rest) a w :=
 wpList_plain hgd fun K hK => by
  have hr := run_buildSlice1 (P := P) w T e (a.eval x) z cs hT hx hz hzs hi hs hpos
  unfold Oper.wp execOp
  simp only [ho, List.map_toArray, List.map_cons, List.map_nil, hr, Sem.run_bind, Sem.run_pure, Result.andThen_ok]
  exact hK _ _ (h _ _ (hM.atNew e cs))
theorem wpList_append_row {α : Type} {f : α → List Value} {size : Nat} (hgd : op.guard = none) (s x : Operand) (t e : TypeId) (ho : op.op = .call { callee := .builtin .append, args := #[s, x], argTypes := #[t, t] }) (ht : P.underlying t = some (.slice e))
  (bytes : Nat) (he : (P.info? e).map (fun i => (i.size, i.bytes, i.zero.map (·.cells.size))) = some (size, bytes, some size)) (hsz : 0 < size)
  (k j g : Nat) (v : Value) (rs : List α) (r : α) (hM : MemX E w0 w l) (hk : l[k]? = some (rowR size f v rs)) (hj : l[j]? = some (atR g e (f r))) (hs : a.eval s = v) (c : Nat) (hx : a.eval x = .slice (some ⟨g, 0, none⟩) 1 c)
  (hl : (f r).length = size) (h1 : ∀ u ∈ f r, u.oneCell' = true) (hb : (rs.length + 1) * bytes ≤ 140737488355328) (hb2 : rs.length + 1 ≤ maxLen)
  (h : ∀ v' W, MemX E w0 W (l.set k (rowR size f v' (rs ++ [r]))) → wpList P ops Q rest (a.put op.dst v') W) : wpList P ops Q (op :: rest) a w := by
 obtain ⟨i, z, i0, i1, i2, i3, i4⟩ := elem_of he
 have hV : Win w 0 size v rs.length (rs.flatMap f) := hM.win_ k hk
 have hA := hM.at_ j hj
 refine wpList_append_win hgd s x t ho 0 e i z size bytes ht i0 i1 i2 i3 i4 hsz v rs.length _ hs hV ⟨g, 0, none⟩ 1 c (f r) hx (by rw [hl, Nat.one_mul]) hA.news h1 (by decide) hb2 hb (Nat.zero_le _) ?_
 intro v' W hV' hO hat
 refine h v' W (hM.upd k hk hO (winR_stab _ _ _ _ _) (by
  show Win W 0 size v' (rs ++ [r]).length ((rs ++ [r]).flatMap f)
  rw [List.length_append, List.flatMap_append]
  simpa using hV') (fun j' hj' => ⟨?_, (hV'.lt j' hj').2⟩))
 have hj2 : v'.ownBlock = some j' := hj'
 rcases hat with e1 | ⟨m, e1, hm⟩
 ·left; show v.ownBlock = some j'; rw [← e1]; exact hj2
 ·right; rw [e1] at hj2; cases hj2; exact hm
theorem rows_at {α : Type} {f : α → List Value} {size : Nat} (hf : ∀ r, (f r).length = size) : ∀ (rs : List α) (i : Nat) (r : α), rs[i]? = some r → ∀ j, j < size → (rs.flatMap f)[i * size + j]? = (f r)[j]?
  | [], i, r, h, j, hj => by simp at h
  | q :: rs, 0, r, h, j, hj => by
    simp at h; subst h
    rw [List.flatMap_cons, Nat.zero_mul, Nat.zero_add, List.getElem?_append_left (by rw [hf]; exact hj)]
  | q :: rs, i + 1, r, h, j, hj => by
    rw [List.flatMap_cons, List.getElem?_append_right (by rw [hf, Nat.add_mul]; omega), hf, show (i + 1) * size + j - size = i * size + j by rw [Nat.add_mul]; omega]
    exact rows_at hf rs i r (by simpa using h) j hj
theorem row_range {α : Type} {f : α → List Value} {size g off n cap : Nat} {rs : List α} {W : World} (hf : ∀ r, (f r).length = size) (h : Win W 0 size (.slice (some ⟨g, off, none⟩) n cap) rs.length (rs.flatMap f)) (i : Nat) (r : α) (hi : rs[i]? = some r) : W.rangeAt g (off + i * size) (f r) := by
 obtain ⟨g', off', cap', e, hW⟩ := h.pos (by have := (List.getElem?_eq_some_iff.1 hi).1; omega)
 injection e with e1 e2 e3
 injection e1 with e1
 injection e1 with e4 e5 _
 subst e4; subst e5
 intro j v hj
 have hjs : j < size := by have := (List.getElem?_eq_some_iff.1 hj).1; rw [hf] at this; exact this
 rw [Nat.add_assoc]
 refine hW.here (i * size + j) v ?_
 rw [rows_at hf rs i r hi j hjs]; exact hj
theorem MemX.row {α : Type} {f : α → List Value} {size : Nat} {v : Value} {rs : List α} (h : MemX E w0 w l) (k : Nat) (hk : l[k]? = some (rowR size f v rs)) : Win w 0 size v rs.length (rs.flatMap f) := h.win_ k hk
theorem MemX.rowNil {α : Type} (h : MemX E w0 w l) (size : Nat) (f : α → List Value) : MemX E w0 w (l ++ [rowR size f (.slice none 0 0) []]) := h.winNil 0 size
theorem wpList_load_row {α : Type} {f : α → List Value} {size g off n cap : Nat} {rs : List α} (hgd : op.guard = none) (T : TypeId) (x : Operand) (ho : op.op = .load T x) (k i : Nat) (r : α) (hM : MemX E w0 w l) (hk : l[k]? = some (rowR size f (.slice (some ⟨g, off, none⟩) n cap) rs)) (hr : rs[i]? = some r) (hx : a.eval x = .pointer (some ⟨g, off + i * size, none⟩))
  (hf : ∀ r, (f r).length = size) (d : TypeDesc) (hu : P.underlying T = some d) (hd : d.isRow = true) (hi : (P.info? T).map (·.size) = some (f r).length)
  (h : wpList P ops Q rest (a.put op.dst (.agg (f r).toArray)) w) : wpList P ops Q (op :: rest) a w :=
 wpList_load_mid hgd T x ho g (off + i * size) hx (f r) d (row_range hf (hM.row k hk) i r hr) hu hd hi h
theorem MemX.one {α : Type} {f : α → List Value} {size : Nat} {g : Nat} {t : TypeId} (h : MemX E w0 w l) (k : Nat) (r : α) (hk : l[k]? = some (atR g t (f r))) (hl : (f r).length = size) : MemX E w0 w (l.set k (rowR size f (.slice (some ⟨g, 0, none⟩) 1 1) [r])) := by
 have hA := h.at_ k hk
 refine h.upd k hk (World.grownBy.refl _ _) (winR_stab _ _ _ _ _) ?_ (fun j hj => ?_)
 ·show Win w 0 size _ 1 ([r].flatMap f)
  have e : [r].flatMap f = f r := by simp
  rw [e]
  refine ⟨by omega, .inr ⟨g, 0, 1, rfl, Nat.zero_le _, hA.lt, Nat.le_refl _, by simp [maxLen], fun j u hj => ?_, fun j hj => by simp at hj, fun j hj => hA.free _⟩⟩
  rw [Nat.zero_add, hA.cell]; exact hj
 ·have hj' : some g = some j := hj
  exact ⟨.inl hj', by have := hA.lt; cases hj'; exact this⟩
end
section
variable {P : Program} {w w' : World} {base size g off cap n : Nat} {cs : List Value}
end
section
variable {P : Program} {w : World} {ops : Array Oper} {rest : List Oper} {o : Oper} {a : Act} {Q : Exit → Act → World → Prop}
end
def blkE (a : List Res) : Nat → Prop := fun g => ∃ r ∈ a, r.blk = some g
section
variable {E : Nat → Prop} {w W W' : World} {a b a' : List Res}
theorem MemX.hand (h : MemX E w W (a ++ b)) : MemX (blkE a) W W a := by
 refine ⟨Fr.refl _ _, fun r hr => h.p r (List.mem_append_left _ hr), fun r hr => h.s r (List.mem_append_left _ hr), fun r hr g hg => ⟨.inr ⟨r, hr, hg⟩, (h.lo r (List.mem_append_left _ hr) g hg).2⟩, fun i j hij r q hi hj => ?_⟩
 have hil := (List.getElem?_eq_some_iff.1 hi).1
 have hjl := (List.getElem?_eq_some_iff.1 hj).1
 exact h.ne i j hij r q (by rw [List.getElem?_append_left hil]; exact hi) (by rw [List.getElem?_append_left hjl]; exact hj)
theorem MemX.back (h : MemX E w W (a ++ b)) (h' : MemX (blkE a) W W' a') : MemX E w W' (a' ++ b) := by
 have hnb : ∀ r ∈ b, ∀ g, r.blk = some g → ¬ blkE a g := fun r hr g hg ⟨q, hq, hqg⟩ => by
  obtain ⟨i, hi⟩ := List.getElem?_of_mem hq
  obtain ⟨j, hj⟩ := List.getElem?_of_mem hr
  have hil := (List.getElem?_eq_some_iff.1 hi).1
  refine h.ne i (a.length + j) (by omega) q r (by rw [List.getElem?_append_left hil]; exact hi) ?_ g hqg hg
  rw [List.getElem?_append_right (by omega), Nat.add_sub_cancel_left]; exact hj
 have hE : ∀ g, blkE a g → w.heap.size ≤ g ∨ E g := fun g ⟨q, hq, hqg⟩ => (h.lo q (List.mem_append_left _ hq) g hqg).1
 have hlo : ∀ r ∈ a', ∀ g, r.blk = some g → (w.heap.size ≤ g ∨ E g) ∧ g < W'.heap.size := fun r hr g hg => by
  have := h'.lo r hr g hg
  exact ⟨this.1.elim (fun h1 => .inl (Nat.le_trans h.fr.size h1)) (hE g), this.2⟩
 have hap : ∀ r ∈ a', ∀ q ∈ b, ∀ g, r.blk = some g → q.blk ≠ some g := fun r hr q hq g hg hqg => by
  have h1 := h'.lo r hr g hg
  have h2 := (h.lo q (List.mem_append_right _ hq) g hqg).2
  rcases h1.1 with h3 | h3
  ·omega
  ·exact hnb q hq g hqg h3
 refine ⟨⟨h'.fr.os.trans h.fr.os, h'.fr.tape.trans h.fr.tape, h'.fr.output.trans h.fr.output, Nat.le_trans h.fr.size h'.fr.size, fun k hk hn => ?_⟩, ?_, ?_, ?_, ?_⟩
 ·refine (h'.fr.block k (Nat.lt_of_lt_of_le hk h.fr.size) (fun e => ?_)).trans (h.fr.block k hk hn)
  rcases hE k e with h1 | h1
  ·omega
  ·exact hn h1
 ·intro r hr
  rcases List.mem_append.1 hr with hr | hr
  ·exact h'.p r hr
  ·exact h.s r (List.mem_append_right _ hr) W W' (h.p r (List.mem_append_right _ hr)) h'.fr.size (fun g hg => h'.fr.block g (h.lo r (List.mem_append_right _ hr) g hg).2 (hnb r hr g hg))
 ·intro r hr
  rcases List.mem_append.1 hr with hr | hr
  ·exact h'.s r hr
  ·exact h.s r (List.mem_append_right _ hr)
 ·intro r hr g hg
  rcases List.mem_append.1 hr with hr | hr
  ·exact hlo r hr g hg
  ·have := h.lo r (List.mem_append_right _ hr) g hg
   exact ⟨this.1, Nat.lt_of_lt_of_le this.2 h'.fr.size⟩
 ·intro i j hij r q hi hj g hg
  have key : ∀ (m : Nat) (x : Res), (a' ++ b)[m]? = some x → (m < a'.length ∧ a'[m]? = some x) ∨ (a'.length ≤ m ∧ b[m - a'.length]? = some x) := fun m x hx => by
   by_cases hm : m < a'.length
   ·rw [List.getElem?_append_left hm] at hx; exact .inl ⟨hm, hx⟩
   ·rw [List.getElem?_append_right (by omega)] at hx; exact .inr ⟨by omega, hx⟩
  rcases key i r hi with ⟨i1, i2⟩ | ⟨i1, i2⟩
  ·rcases key j q hj with ⟨j1, j2⟩ | ⟨j1, j2⟩
   ·exact h'.ne i j hij r q i2 j2 g hg
   ·exact hap r (List.mem_of_getElem? i2) q (List.mem_of_getElem? j2) g hg
  ·rcases key j q hj with ⟨j1, j2⟩ | ⟨j1, j2⟩
   ·exact fun e => hap q (List.mem_of_getElem? j2) r (List.mem_of_getElem? i2) g e hg
   ·have ib := (List.getElem?_eq_some_iff.1 i2).1
    have jb := (List.getElem?_eq_some_iff.1 j2).1
    exact h.ne (a.length + (i - a'.length)) (a.length + (j - a'.length)) (by omega) r q (by rw [List.getElem?_append_right (by omega), Nat.add_sub_cancel_left]; exact i2) (by rw [List.getElem?_append_right (by omega), Nat.add_sub_cancel_left]; exact j2) g hg
theorem MemX.new_ (h : MemX E w W b) (h' : MemX noE W W' a') : MemX E w W' (a' ++ b) := by
 have : MemX E w W ([] ++ b) := h
 refine this.back (a := []) ⟨⟨h'.fr.os, h'.fr.tape, h'.fr.output, h'.fr.size, fun k hk hn => h'.fr.block k hk (fun e => e)⟩, h'.p, h'.s, fun r hr g hg => ?_, h'.ne⟩
 have := h'.lo r hr g hg
 exact ⟨.inl (this.1.resolve_right (fun e => e)), this.2⟩
theorem MemX.perm {l l' : List Res} (h : MemX E w W l) (hp : l.Perm l') : MemX E w W l' := by
 have hpw : ∀ {m : List Res}, (∀ (i j : Nat), i ≠ j → ∀ (r q : Res), m[i]? = some r → m[j]? = some q → ∀ g, r.blk = some g → q.blk ≠ some g) ↔ m.Pairwise (fun r q => ∀ g, r.blk = some g → q.blk ≠ some g) := fun {m} => by
  rw [List.pairwise_iff_getElem]
  constructor
  ·intro h i j hi hj hij
   exact h i j (by omega) _ _ (List.getElem?_eq_getElem hi) (List.getElem?_eq_getElem hj)
  ·intro h i j hij r q hi hj g hg hqg
   obtain ⟨i1, rfl⟩ := List.getElem?_eq_some_iff.1 hi
   obtain ⟨j1, rfl⟩ := List.getElem?_eq_some_iff.1 hj
   rcases Nat.lt_or_gt_of_ne hij with h1 | h1
   ·exact h i j i1 j1 h1 g hg hqg
   ·exact h j i j1 i1 h1 g hqg hg
 refine ⟨h.fr, fun r hr => h.p r (hp.mem_iff.2 hr), fun r hr => h.s r (hp.mem_iff.2 hr), fun r hr => h.lo r (hp.mem_iff.2 hr), hpw.2 ?_⟩
 exact (hp.pairwise_iff (fun {r q} hrq g hg hqg => hrq g hqg hg)).1 (hpw.1 h.ne)
theorem MemX.drop_ (h : MemX E w W (a ++ b)) : MemX E w W b := by
 have := h.perm (List.perm_append_comm (l₁ := a) (l₂ := b))
 have := this.take_ b.length
 rwa [List.take_left] at this
end
section
variable {P : Program} {w w' : World} {base size g off cap n : Nat} {cs : List Value}
end
section
variable {α : Type} {size : Nat} {f : α → List Value} {v : Value} {rs : List α} {W : World}
end
section
variable {P : Program} {ops : Array Oper} {rest : List Oper} {op : Oper} {a : Act} {w w0 : World} {Q : Exit → Act → World → Prop} {E : Nat → Prop} {l : List Res}
end
set_option linter.unusedSectionVars false
theorem rows_len {α : Type} {f : α → List Value} {size : Nat} : ∀ (rs : List α), (∀ r ∈ rs, (f r).length = size) → (rs.flatMap f).length = rs.length * size
  | [], _ => by simp
  | r :: rs, h => by
    rw [List.flatMap_cons, List.length_append, h r List.mem_cons_self, rows_len rs fun q hq => h q (List.mem_cons_of_mem _ hq), List.length_cons, Nat.succ_mul, Nat.add_comm]
section
variable {w : World} {base size g off cap n : Nat} {cs : List Value}
end
section
variable {E : Nat → Prop} {P : Program} {ops : Array Oper} {rest : List Oper} {op : Oper} {a : Act} {w0 w : World} {Q : Exit → Act → World → Prop} {l : List Res}
end
end Go.Proofs.Ytfpifahkpkjfgaa
namespace Go.Proofs.Ytfpifahkpkjfgaa
open Go Go.RowKit
set_option linter.unusedVariables false
section
variable {P : Program} {ops : Array Oper} {md : Region.Mode} {I : World → Prop} {X : List Nat} {Q : Exit → Act → World → Prop}
def wpI (P : Program) (md : Region.Mode) (ops : Array Oper) (I : World → Prop) (X : List Nat) (Q : Exit → Act → World → Prop) : Nat → Array Bool → Act → World → Prop
  | 0, done, a, w => Region.ready md ops done = [] ∧ Q .normal a w
  | f + 1, done, a, w => (Region.ready md ops done = [] → Q .normal a w) ∧
    ∀ i ∈ Region.ready md ops done, wpOp P ops Q i (fun a' w' => (i ∈ X ∨ (I w → I w')) ∧ wpI P md ops I X Q f (done.setIfInBounds i true) a' w') a w
theorem wpAny_of_wpI : ∀ (f : Nat) (done : Array Bool) (a : Act) (w : World), wpI P md ops I X Q f done a w → wpAny P md ops Q f done a w
 | 0, _, _, _, h => h
 | f + 1, _, _, _, h => ⟨h.1, fun i hi => wpOp_mono (fun a' w' h2 => wpAny_of_wpI f _ a' w' h2.2) (h.2 i hi)⟩
def YieldsI (P : Program) (ops : Array Oper) (I : World → Prop) (o : Oper) (v : Value) (a : Act) : Prop :=
 (Region.wanted o (yielded ops a.tmps) = true ∧ ∀ w, I w → (execOp a.eval o).run P w = .ok (.value v) w) ∨
 (Region.wanted o (yielded ops a.tmps) = false ∧ v = undef)
theorem YieldsI.wpOp {i : Nat} {o : Oper} {v : Value} {a : Act} {w : World} {K : Act → World → Prop} (hi : ops[i]? = some o) (hy : YieldsI P ops I o v a) (hw : I w) (h : K (a.put o.dst v) w) : Go.wpOp P ops Q i K a w := by
 unfold Go.wpOp
 simp only [hi]
 rcases hy with ⟨h1, h2⟩ | ⟨h1, rfl⟩
 ·simp only [h1, if_true, Oper.wp, h2 w hw, Oper.upon]; exact .inl h
 ·simp only [h1, Bool.false_eq_true, if_false]; exact h
theorem YieldsI.of_same {o : Oper} {v : Value} {a a' : Act} (hy : YieldsI P ops I o v a) (he : execOp a'.eval o = execOp a.eval o)
  (hw : Region.wanted o (yielded ops a'.tmps) = Region.wanted o (yielded ops a.tmps)) : YieldsI P ops I o v a' := by
 unfold YieldsI at *
 rw [he, hw]
 exact hy
theorem wpOp_putI {j : Nat} {oi oj : Oper} {v : Value} (hj : ops[j]? = some oj) (hap : oi.apart ops oj = true)
    (hsi : ∀ cs b, oi.op ≠ .select cs b) (hsj : ∀ cs b, oj.op ≠ .select cs b)
    (hQ : ∀ c a w, Q (.panic c) (a.put oi.dst v) w → Q (.panic c) a w) {K : Act → World → Prop} {a : Act} {w : World}
    (hy : YieldsI P ops I oi v a) (h : wpOp P ops Q j K (a.put oi.dst v) w) :
    wpOp P ops Q j (fun a' w' => YieldsI P ops I oi v a' ∧ K (a'.put oi.dst v) w') a w := by
  obtain ⟨h1, h2, h3⟩ := Oper.apart_spec hap
  have keep : ∀ (a : Act), YieldsI P ops I oi v a → ∀ u, YieldsI P ops I oi v (a.put oj.dst u) := fun a hy u =>
    hy.of_same (execOp_put oi hsi a oj.dst u h3) (wanted_put oi a oj.dst u h3)
  have keepD : ∀ d, YieldsI P ops I oi v { a with defers := d :: a.defers } := fun d => hy.of_same rfl rfl
  unfold wpOp at *
  simp only [hj] at *
  rw [wanted_put oj a oi.dst v h1] at h
  split
  · rename_i hw
    simp only [hw, if_true] at h
    rcases h with h | ⟨hasks, hlets⟩
    case inr => exact .inr ⟨by unfold Oper.asks at *; rw [execOp_put oj hsj a oi.dst v h1] at hasks; exact hasks, hlets⟩
    refine .inl ?_
    unfold Oper.wp at *
    rw [execOp_put oj hsj a oi.dst v h1] at h
    generalize (execOp a.eval oj).run P w = r at *
    cases r with
    | ok n w' =>
      cases n <;> simp only [Oper.upon] at h ⊢
      case value u => exact ⟨keep a hy u, by rw [← Act.put_comm a v u h2]; exact h⟩
      case skip => exact ⟨keep a hy _, by rw [← Act.put_comm a v undef h2]; exact h⟩
      case defer d =>
        refine ⟨keep _ (keepD d) _, ?_⟩
        rw [← Act.put_comm _ v undef h2, ← Act.put_defers]
        exact h
      case enter f args =>
        refine Calls.mono h fun e w'' he => ?_
        cases e with
        | returned u => exact ⟨keep a hy u, by rw [← Act.put_comm a v u h2]; exact he⟩
        | panicked c => exact hQ _ _ _ he
        | outgrown => exact he
      case row row args => exact Rows.mono h fun u w'' he => ⟨keep a hy u, by rw [← Act.put_comm a v u h2]; exact he⟩
    | halt x w' =>
      cases x <;> simp only [Oper.upon] at h ⊢
      case panic u => exact hQ _ _ _ h
  · rename_i hw
    simp only [hw] at h
    exact ⟨keep a hy _, by rw [← Act.put_comm a v undef h2]; exact h⟩
theorem wpI_first {i : Nat} {oi : Oper} {v : Value} (hi : ops[i]? = some oi) (hsel : ∀ (j : Nat) (o : Oper) cs b, ops[j]? = some o → o.op ≠ .select cs b)
    (hQ : ∀ c a w, Q (.panic c) (a.put oi.dst v) w → Q (.panic c) a w) :
    ∀ (fuel : Nat) (listed : Array Bool) (a : Act) (w : World),
      (∀ j oj, ops[j]? = some oj → j ≠ i → listed.getD j true = false → (∀ e ∈ oj.after, Region.binds md e = true → e.on ≠ i) → oi.apart ops oj = true) →
      (∀ x ∈ X, listed.getD x true = true ∨ ∃ ox, ops[x]? = some ox ∧ ∃ e ∈ ox.after, Region.binds md e = true ∧ e.on = i) →
      i ∈ Region.ready md ops listed → YieldsI P ops I oi v a → I w →
      wpI P md ops I X Q fuel (listed.setIfInBounds i true) (a.put oi.dst v) w → wpI P md ops I X Q (fuel + 1) listed a w := by
  intro fuel
  induction fuel with
  | zero =>
    intro listed a w _ hX hr hy hw H
    refine ⟨fun h => (by rw [h] at hr; cases hr), fun j hj => ?_⟩
    by_cases hji : j = i
    · subst hji; exact hy.wpOp hi hw ⟨.inr id, H⟩
    · have := ready_mono hj hji
      rw [H.1] at this
      cases this
  | succ fuel ih =>
    intro listed a w hfree hX hr hy hw H
    refine ⟨fun h => (by rw [h] at hr; cases hr), fun j hj => ?_⟩
    by_cases hji : j = i
    · subst hji; exact hy.wpOp hi hw ⟨.inr id, H⟩
    · have h1 := H.2 j (ready_mono hj hji)
      obtain ⟨hjun, oj, hoj, hall⟩ := mem_ready.1 hj
      have hnot : ∀ e ∈ oj.after, Region.binds md e = true → e.on ≠ i := fun e he hb heq => by
        have h1 := hall e he hb
        have h0 := (mem_ready.1 hr).1
        rw [heq] at h1
        rcases Nat.lt_or_ge i listed.size with h' | h'
        · simp [h'] at h0 h1; rw [h0] at h1; cases h1
        · simp [Array.getElem?_eq_none h'] at h1
      have h2 := wpOp_putI hoj (hfree j oj hoj hji hjun hnot) (fun cs b => hsel i oi cs b hi) (fun cs b => hsel j oj cs b hoj) hQ hy h1
      have hfree' : ∀ k ok, ops[k]? = some ok → k ≠ i → (listed.setIfInBounds j true).getD k true = false →
          (∀ e ∈ ok.after, Region.binds md e = true → e.on ≠ i) → oi.apart ops ok = true := fun k ok hk hki hun hno => by
        refine hfree k ok hk hki ?_ hno
        by_cases hjk : j = k
        · subst hjk; exact hjun
        · rw [getD_set_ne true hjk] at hun; exact hun
      have hjX : j ∉ X := fun hjx => by
        rcases hX j hjx with h4 | ⟨ox, h4, e, h5, h6, h7⟩
        · rw [hjun] at h4; cases h4
        · rw [hoj] at h4; cases h4
          exact hnot e h5 h6 h7
      have hX' : ∀ x ∈ X, (listed.setIfInBounds j true).getD x true = true ∨ ∃ ox, ops[x]? = some ox ∧ ∃ e ∈ ox.after, Region.binds md e = true ∧ e.on = i := fun x hx => (hX x hx).imp (fun h4 => by
        by_cases hjx : j = x
        · exact absurd (hjx ▸ hx) hjX
        · rw [getD_set_ne true hjx]; exact h4) id
      refine wpOp_mono (fun a' w' h3 => ⟨h3.2.1, ih (listed.setIfInBounds j true) a' w' hfree' hX' (ready_mono hr (Ne.symm hji)) h3.1 (h3.2.1.resolve_left hjX hw) ?_⟩) h2
      rw [Array.setIfInBounds_comm _ _ hji]
      exact h3.2.2
def lateB (md : Region.Mode) (ops : Array Oper) (X : List Nat) (listed : Array Bool) (i : Nat) : Bool := X.all fun x => listed.getD x true || ((ops[x]?).map fun o => o.after.any fun e => Region.binds md e && e.on == i).getD false
theorem lateB_spec {listed : Array Bool} {i : Nat} (h : lateB md ops X listed i = true) : ∀ x ∈ X, listed.getD x true = true ∨ ∃ ox, ops[x]? = some ox ∧ ∃ e ∈ ox.after, Region.binds md e = true ∧ e.on = i := by
  intro x hx
  have h1 := List.all_eq_true.1 h x hx
  rw [Bool.or_eq_true] at h1
  refine h1.imp id fun h1 => ?_
  cases ho : ops[x]? with
  | none => rw [ho] at h1; cases h1
  | some o =>
    rw [ho] at h1
    obtain ⟨e, he, hb⟩ := Array.any_eq_true'.1 h1
    simp only [Bool.and_eq_true, beq_iff_eq] at hb
    exact ⟨o, rfl, e, he, hb.1, hb.2⟩
theorem wpI_firstP {i : Nat} {oi : Oper} {v : Value} (hi : ops[i]? = some oi) (hsel : ∀ (j : Nat) (o : Oper) cs b, ops[j]? = some o → o.op ≠ .select cs b)
    (hQ : ∀ c a w, Q (.panic c) (a.put oi.dst v) w → Q (.panic c) a w) :
    ∀ (fuel : Nat) (listed : Array Bool) (a : Act) (w : World),
      (∀ j oj, ops[j]? = some oj → j ≠ i → listed.getD j true = false → (∀ e ∈ oj.after, Region.binds md e = true → e.on ≠ i) → oi.apart ops oj = true) →
      i ∈ Region.ready md ops listed → Yields P ops oi v a →
      wpI P md ops I X Q fuel (listed.setIfInBounds i true) (a.put oi.dst v) w → wpI P md ops I X Q (fuel + 1) listed a w := by
  intro fuel
  induction fuel with
  | zero =>
    intro listed a w _ hr hy H
    refine ⟨fun h => (by rw [h] at hr; cases hr), fun j hj => ?_⟩
    by_cases hji : j = i
    · subst hji; exact hy.wpOp hi ⟨.inr id, H⟩
    · have := ready_mono hj hji
      rw [H.1] at this
      cases this
  | succ fuel ih =>
    intro listed a w hfree hr hy H
    refine ⟨fun h => (by rw [h] at hr; cases hr), fun j hj => ?_⟩
    by_cases hji : j = i
    · subst hji; exact hy.wpOp hi ⟨.inr id, H⟩
    · have h1 := H.2 j (ready_mono hj hji)
      obtain ⟨hjun, oj, hoj, hall⟩ := mem_ready.1 hj
      have hnot : ∀ e ∈ oj.after, Region.binds md e = true → e.on ≠ i := fun e he hb heq => by
        have h1 := hall e he hb
        have h0 := (mem_ready.1 hr).1
        rw [heq] at h1
        rcases Nat.lt_or_ge i listed.size with h' | h'
        · simp [h'] at h0 h1; rw [h0] at h1; cases h1
        · simp [Array.getElem?_eq_none h'] at h1
      have h2 := wpOp_put hoj (hfree j oj hoj hji hjun hnot) (fun cs b => hsel i oi cs b hi) (fun cs b => hsel j oj cs b hoj) hQ hy h1
      have hfree' : ∀ k ok, ops[k]? = some ok → k ≠ i → (listed.setIfInBounds j true).getD k true = false →
          (∀ e ∈ ok.after, Region.binds md e = true → e.on ≠ i) → oi.apart ops ok = true := fun k ok hk hki hun hno => by
        refine hfree k ok hk hki ?_ hno
        by_cases hjk : j = k
        · subst hjk; exact hjun
        · rw [getD_set_ne true hjk] at hun; exact hun
      refine wpOp_mono (fun a' w' h3 => ⟨h3.2.1, ih (listed.setIfInBounds j true) a' w' hfree' (ready_mono hr (Ne.symm hji)) h3.1 ?_⟩) h2
      rw [Array.setIfInBounds_comm _ _ hji]
      exact h3.2.2
theorem wpI_takeP {i : Nat} {oi : Oper} {v : Value} {fuel : Nat} {listed : Array Bool} {a : Act} {w : World} (hi : ops[i]? = some oi)
  (hs : Region.noSelect ops = true) (hf : Region.free md ops listed i = true) (hr : (Region.ready md ops listed).contains i = true)
  (hQ : ∀ c a w, Q (.panic c) (a.put oi.dst v) w → Q (.panic c) a w) (hy : Yields P ops oi v a)
  (h : wpI P md ops I X Q fuel (listed.setIfInBounds i true) (a.put oi.dst v) w) : wpI P md ops I X Q (fuel + 1) listed a w :=
 wpI_firstP hi (Region.noSelect_spec hs) hQ fuel listed a w (Region.free_spec hi hf) (by simpa using hr) hy h
theorem wpI_take {i : Nat} {oi : Oper} {v : Value} {fuel : Nat} {listed : Array Bool} {a : Act} {w : World} (hi : ops[i]? = some oi)
  (hs : Region.noSelect ops = true) (hf : Region.free md ops listed i = true) (hr : (Region.ready md ops listed).contains i = true)
  (hl : lateB md ops X listed i = true) (hQ : ∀ c a w, Q (.panic c) (a.put oi.dst v) w → Q (.panic c) a w) (hw : I w) (hy : YieldsI P ops I oi v a)
  (h : wpI P md ops I X Q fuel (listed.setIfInBounds i true) (a.put oi.dst v) w) : wpI P md ops I X Q (fuel + 1) listed a w :=
 wpI_first hi (Region.noSelect_spec hs) hQ fuel listed a w (Region.free_spec hi hf) (lateB_spec hl) (by simpa using hr) hy hw h
def contI (P : Program) (md : Region.Mode) (ops : Array Oper) (I : World → Prop) (X : List Nat) (Q : Exit → Act → World → Prop) (f : Nat) (done : Array Bool) (i : Nat) (w0 : World) : Exit → Act → World → Prop
 | .normal, a, w => (i ∈ X ∨ (I w0 → I w)) ∧ wpI P md ops I X Q f done a w
 | e, a, w => Q e a w
theorem contI_normal {f i : Nat} {done : Array Bool} {a : Act} {w0 w : World} (hI : I w) (h : wpI P md ops I X Q f done a w) : contI P md ops I X Q f done i w0 .normal a w := ⟨.inr fun _ => hI, h⟩
theorem contI_late {f i : Nat} {done : Array Bool} {a : Act} {w0 w : World} (hX : i ∈ X) (h : wpI P md ops I X Q f done a w) : contI P md ops I X Q f done i w0 .normal a w := ⟨.inl hX, h⟩
theorem wpI_one {i : Nat} {oi : Oper} {fuel : Nat} {listed : Array Bool} {a : Act} {w : World} (hi : ops[i]? = some oi) (hr : Region.ready md ops listed = [i])
    (h : wpList P ops (contI P md ops I X Q fuel (listed.setIfInBounds i true) i w) [oi] a w) : wpI P md ops I X Q (fuel + 1) listed a w := by
  refine ⟨fun h0 => (by rw [hr] at h0; cases h0), fun j hj => ?_⟩
  rw [hr, List.mem_singleton] at hj
  subst hj
  unfold Go.wpOp
  simp only [hi]
  unfold wpList at h
  split
  · rename_i hw
    rw [if_pos hw] at h
    rcases h with h | ⟨h1, h2⟩
    · refine .inl ?_
      unfold Oper.wp at *
      generalize (execOp a.eval oi).run P w = r at *
      cases r with
      | ok n w' =>
        cases n <;> simp only [Oper.upon] at h ⊢
        case enter f args =>
          refine Calls.mono h fun e w'' he => ?_
          cases e with
          | returned u => exact he
          | panicked c => exact he
          | outgrown => exact he
        all_goals exact h
      | halt x w' =>
        cases x <;> simp only [Oper.upon] at h ⊢
        case panic u => exact h
    · exact .inr ⟨h1, h2⟩
  · rename_i hw
    rw [if_neg hw] at h
    exact h
theorem wpI_done {listed : Array Bool} {a : Act} {w : World} (hr : Region.ready md ops listed = []) (h : Q .normal a w) : ∀ fuel, wpI P md ops I X Q fuel listed a w
 | 0 => ⟨hr, h⟩
 | _ + 1 => ⟨fun _ => h, by rw [hr]; simp⟩
theorem wp_region_I {id : Nat} {a : Act} {w : World} (I : World → Prop) (X : List Nat) (hm : P.follows .mixedOrders = true)
  (h : wpI P .any ops I X Q ops.size (Array.replicate ops.size false) a w.drew) : (Code.region id ops true).wp P Q a w :=
 wp_region_any hm (wpAny_of_wpI _ _ _ _ h)
end
def holdsAt (l : List Res) (W : World) : List Nat → Prop
 | [] => True
 | k :: ks => (∀ r, l[k]? = some r → r.P W) ∧ holdsAt l W ks
theorem wp_region_M {P : Program} {l : List Res} {E : Nat → Prop} {w0 w : World} {id : Nat} {a : Act} {Q : Exit → Act → World → Prop} {os : List Oper} (ks X : List Nat) (hM : MemX E w0 w l) (hm : P.follows .mixedOrders = true)
  (h : ∀ W, MemX E w0 W l → wpI P .any os.toArray (fun W => holdsAt l W ks) X Q os.length (Array.replicate os.length false) a W) : (Code.region id os.toArray true).wp P Q a w := by
 have := h w.drew (hM.kept (Below.refl _ _).drew)
 exact wp_region_I _ X hm (by simpa using this)
section
variable {P : Program} {ops : Array Oper} {md : Region.Mode} {I : World → Prop} {X : List Nat} {Q : Exit → Act → World → Prop} {oi : Oper} {v : Value} {fuel : Nat} {listed : Array Bool} {a : Act} {w : World}
theorem tY (i : Nat) (hi : ops[i]? = some oi) (hy : Yields P ops oi v a) (h : wpI P md ops I X Q fuel (listed.setIfInBounds i true) (a.put oi.dst v) w)
  (hs : Region.noSelect ops = true := by kernel_rfl) (hf : Region.free md ops listed i = true := by kernel_rfl) (hr : (Region.ready md ops listed).contains i = true := by kernel_rfl)
  (hQ : ∀ c a w, Q (.panic c) (a.put oi.dst v) w → Q (.panic c) a w := by first | exact fun _ _ _ h => h | exact fun _ _ _ h => HQ0.out _ _ _ _ _ h) : wpI P md ops I X Q (fuel + 1) listed a w :=
 wpI_takeP hi hs hf hr hQ hy h
theorem tW (i : Nat) (hi : ops[i]? = some oi) (h : wpI P md ops I X Q fuel (listed.setIfInBounds i true) (a.put oi.dst v) w)
  (hw : Region.wanted oi (yielded ops a.tmps) = true := by rfl) (hy : ∀ W, (execOp a.eval oi).run P W = .ok (.value v) W := by (intro W; go_simp; (try with_reducible rfl)))
  (hs : Region.noSelect ops = true := by kernel_rfl) (hf : Region.free md ops listed i = true := by kernel_rfl) (hr : (Region.ready md ops listed).contains i = true := by kernel_rfl)
  (hQ : ∀ c a w, Q (.panic c) (a.put oi.dst v) w → Q (.panic c) a w := by first | exact fun _ _ _ h => h | exact fun _ _ _ h => HQ0.out _ _ _ _ _ h) : wpI P md ops I X Q (fuel + 1) listed a w :=
 wpI_takeP hi hs hf hr hQ (.inl ⟨hw, hy⟩) h
theorem tU (i : Nat) (hi : ops[i]? = some oi) (h : wpI P md ops I X Q fuel (listed.setIfInBounds i true) (a.put oi.dst undef) w)
  (hw : Region.wanted oi (yielded ops a.tmps) = false := by rfl)
  (hs : Region.noSelect ops = true := by kernel_rfl) (hf : Region.free md ops listed i = true := by kernel_rfl) (hr : (Region.ready md ops listed).contains i = true := by kernel_rfl)
  (hQ : ∀ c a w, Q (.panic c) (a.put oi.dst undef) w → Q (.panic c) a w := by first | exact fun _ _ _ h => h | exact fun _ _ _ h => HQ0.out _ _ _ _ _ h) : wpI P md ops I X Q (fuel + 1) listed a w :=
 wpI_takeP hi hs hf hr hQ (.inr ⟨hw, rfl⟩) h
theorem tL (i : Nat) (hi : ops[i]? = some oi) (hI : I w) (hy : YieldsI P ops I oi v a) (h : wpI P md ops I X Q fuel (listed.setIfInBounds i true) (a.put oi.dst v) w)
  (hs : Region.noSelect ops = true := by kernel_rfl) (hf : Region.free md ops listed i = true := by kernel_rfl) (hr : (Region.ready md ops listed).contains i = true := by kernel_rfl) (hl : lateB md ops X listed i = true := by kernel_rfl)
  (hQ : ∀ c a w, Q (.panic c) (a.put oi.dst v) w → Q (.panic c) a w := by first | exact fun _ _ _ h => h | exact fun _ _ _ h => HQ0.out _ _ _ _ _ h) : wpI P md ops I X Q (fuel + 1) listed a w :=
 wpI_take hi hs hf hr hl hQ hI hy h
end
end Go.Proofs.Ytfpifahkpkjfgaa
