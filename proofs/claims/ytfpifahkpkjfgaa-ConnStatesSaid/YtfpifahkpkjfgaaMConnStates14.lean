/- What ConnStates needs, part 14: SlR, RowS, Ord. -/
import Derived.Orders
import Derived.Test.YtfpifahkpkjfgaaMConnStates3
import Derived.Test.YtfpifahkpkjfgaaMConnStates13
/- Rows of structs: an element stored over, the end cut off, a copy of all, and what is only read. -/
namespace Go.Proofs.Ytfpifahkpkjfgaa
open Go.RowKit
set_option linter.unusedVariables false

section
variable {P : Program} {w w' : World} {base size g off cap n : Nat} {cs : List Value}
/-- an element stored over -/
theorem WinAt.setAt (h : WinAt w base size g off cap n cs) (hcs : cs.length = n * size) (i : Nat) (hi : i < n) (x : List Value) (hx : x.length = size) :
    WinAt (w.setCells g (off + i * size) x) base size g off cap n (cs.take (i * size) ++ (x ++ cs.drop ((i + 1) * size))) ∧ w.grownBy (w.setCells g (off + i * size) x) (some g) ∧ w.there g (off + i * size) size := by
  have hi1 : (i + 1) * size = i * size + size := by rw [Nat.add_mul, Nat.one_mul]
  have hle : i * size + size ≤ n * size := by rw [← hi1]; exact Nat.mul_le_mul_right _ hi
  have hcap : n * size ≤ cap * size := Nat.mul_le_mul_right _ h.le
  have hg := setCells_grownBy g x (off + i * size) w
  have htk : (cs.take (i * size)).length = i * size := by rw [List.length_take, hcs]; omega
  have hth : w.there g (off + i * size) size := fun j hj => by
    rw [Nat.add_assoc]; exact h.cellAt hcs _ (by omega)
  refine ⟨⟨h.ge, Nat.lt_of_lt_of_le h.lt hg.size, h.le, h.mx, fun j u hj => ?_, fun j hj => ?_, fun j hj => by rw [World.frozen?_setCells]; exact h.soft j hj⟩, hg, hth⟩
  · by_cases hlt : j < i * size
    · rw [List.getElem?_append_left (by omega), List.getElem?_take, if_pos hlt] at hj
      rw [World.cell?_setCells_out g _ _ w _ (fun _ _ => .inl (by show off + j < _; omega))]
      exact h.here j u hj
    · rw [List.getElem?_append_right (by omega), htk] at hj
      by_cases hlt2 : j - i * size < x.length
      · rw [List.getElem?_append_left hlt2] at hj
        have := World.cell?_setCells_in g x (off + i * size) w (fun q hq => (hth q (by omega)).1) (j - i * size) hlt2
        rw [show off + i * size + (j - i * size) = off + j by omega] at this
        rw [this, ← hj, List.getElem?_eq_getElem hlt2]
      · rw [List.getElem?_append_right (by omega), List.getElem?_drop] at hj
        rw [World.cell?_setCells_out g _ _ w _ (fun _ _ => .inr (by show off + i * size + x.length ≤ off + j; omega))]
        exact h.here j u (by rw [← hj]; congr 1; omega)
  · rw [World.frozen?_setCells, World.cell?_setCells_out g _ _ w _ (fun _ _ => .inr (by show off + i * size + x.length ≤ off + n * size + j; omega))]
    exact h.spare j hj
/-- the end cut off -/
theorem WinAt.shrink (h : WinAt w base size g off cap n cs) (hcs : cs.length = n * size) (m : Nat) (hm : m ≤ n) : WinAt w base size g off cap m (cs.take (m * size)) := by
  have h1 : m * size ≤ n * size := Nat.mul_le_mul_right _ hm
  have h2 : n * size ≤ cap * size := Nat.mul_le_mul_right _ h.le
  refine ⟨h.ge, h.lt, Nat.le_trans hm h.le, h.mx, fun j u hj => h.here j u ?_, fun j hj => ?_, fun j hj => h.soft j (by omega)⟩
  · rw [List.getElem?_take] at hj
    split at hj
    · exact hj
    · cases hj
  · rw [Nat.add_assoc]
    exact h.cellAt hcs _ (by rw [Nat.sub_mul] at hj; omega)
/-- a slice without room, and something appended -/
theorem run_append_new (w : World) (t ty e : TypeId) (i : TypeInfo) (z : Value) (size bytes : Nat) (ht : P.underlying t = some (.slice e)) (hi : P.info? e = some i) (hz : i.zero = some z)
    (hsize : i.size = size) (hby : i.bytes = bytes) (hzs : z.cells.size = size) (hsz : 0 < size)
    (o : Option Addr) (a : Addr) (m c : Nat) (news : List Value) (hl : news.length = m * size) (hnews : ∀ j u, news[j]? = some u → w.cell? (a.add j) = some u) (h1 : ∀ u ∈ news, u.oneCell' = true)
    (hm : 0 < m) (h63 : m ≤ maxLen) (hbytes : m * bytes ≤ 140737488355328) :
    ∃ v' w', (Builtin.append_ #[t, t] ty #[.slice o 0 0, .slice (some a) m c]).run P w = .ok v' w' ∧ Win w' w.heap.size size v' m news ∧ Below w.heap.size w w' := by
  cases o with
  | none =>
    obtain ⟨v', w', hr, h2, h3, h4, h5⟩ := run_append_own_at (P := P) w w.heap.size t ty e i z size bytes ht hi hz hsize hby hzs hsz (.slice none 0 0) 0 [] (World.ownsRow_nil _ _ _ _) a m c news hl hnews h1 (by omega) (by rw [Nat.zero_add]; exact hbytes) (Nat.le_refl _)
    rw [Nat.zero_add, List.nil_append] at h2
    exact ⟨v', w', hr, Win.of_owns h2, ⟨h3.os, h3.tape, h3.output, h3.size, fun k hk => h3.block k hk (by simp [Value.ownBlock])⟩⟩
  | some b =>
    obtain ⟨v', w', hr, h2, h3⟩ := run_append_arg_grows (P := P) w t ty e i z size bytes ht hi hz hsize hby hzs hsz b 0 0 [] (by simp) (fun j u hj => by simp at hj) a m c news hl hnews (by omega) (by omega) (by rw [Nat.zero_add]; exact hbytes)
    rw [Nat.zero_add, List.nil_append] at h2
    exact ⟨v', w', hr, Win.of_owns h2, ⟨h3.os, h3.tape, h3.output, h3.size, fun k hk => h3.block k hk (by simp)⟩⟩
end
/-- 's == nil' -/
theorem run_eql_sl_nil {P : Program} (w : World) {t e : TypeId} (a : Option Addr) (n c : Nat) (ht : P.underlying t = some (.slice e)) :
    (binOp .eql t (.slice a n c) (.slice none 0 0)).run P w = .ok (.bool a.isNone) w := by
  have h : ∀ d : Nat, (Op.equalIn (d + 1) t (.slice a n c) (.slice none 0 0)).run P w = .ok a.isNone w := fun d => by
    cases a <;> simp [Op.equalIn, run_underlying ht]
  simp only [binOp]
  simp [Op.equal, Op.maxDepth, h 9999]
theorem take_flat {α : Type} {f : α → List Value} {size : Nat} (hf : ∀ r, (f r).length = size) : ∀ (rs : List α) (k : Nat), (rs.take k).flatMap f = (rs.flatMap f).take (k * size)
  | [], k => by simp
  | r :: rs, 0 => by simp
  | r :: rs, k + 1 => by
    have ih := take_flat hf rs k
    rw [List.take_succ_cons, List.flatMap_cons, List.flatMap_cons, ih, List.take_append, hf]
    rw [show (k + 1) * size = size + k * size by rw [Nat.add_mul]; omega, List.take_of_length_le (l := f r) (by rw [hf]; omega), Nat.add_sub_cancel_left]
theorem set_flat {α : Type} {f : α → List Value} {size : Nat} (hf : ∀ r, (f r).length = size) : ∀ (rs : List α) (k : Nat) (x : α), k < rs.length → (rs.set k x).flatMap f = (rs.flatMap f).take (k * size) ++ (f x ++ (rs.flatMap f).drop ((k + 1) * size))
  | [], k, x, h => by simp at h
  | r :: rs, 0, x, h => by
    rw [List.set_cons_zero, List.flatMap_cons, List.flatMap_cons, Nat.zero_mul, List.take_zero, List.nil_append, Nat.zero_add, Nat.one_mul, List.drop_left' (hf r)]
  | r :: rs, k + 1, x, h => by
    have ih := set_flat hf rs k x (by simpa using h)
    rw [List.set_cons_succ, List.flatMap_cons, List.flatMap_cons, ih]
    rw [show (k + 1) * size = size + k * size by rw [Nat.add_mul]; omega, show (k + 1 + 1) * size = size + (size + k * size) by simp only [Nat.add_mul]; omega]
    rw [List.take_append, List.drop_append, hf, List.take_of_length_le (l := f r) (by rw [hf]; omega), show List.drop (size + (size + k * size)) (f r) = [] from List.drop_eq_nil_of_le (by rw [hf]; omega), List.nil_append, List.append_assoc, show size + k * size - size = k * size by omega, show size + (size + k * size) - size = size + k * size by omega]
theorem flat_len {α : Type} {f : α → List Value} {size : Nat} (hf : ∀ r, (f r).length = size) : ∀ (rs : List α), (rs.flatMap f).length = rs.length * size
  | [] => by simp
  | r :: rs => by rw [List.flatMap_cons, List.length_append, hf, flat_len hf rs, List.length_cons, Nat.add_mul]; omega
/-- a row that is only read: one that has nothing may lie anywhere -/
def rdR {α : Type} (size : Nat) (f : α → List Value) (v : Value) (rs : List α) : Res :=
  ⟨if rs.length = 0 then none else v.ownBlock, fun W => if rs.length = 0 then ∃ o c, v = .slice o 0 c else Win W 0 size v rs.length (rs.flatMap f)⟩
section
variable {α : Type} {size : Nat} {f : α → List Value} {v : Value} {rs : List α} {W : World}
theorem rdR_stab : (rdR size f v rs).Stab := fun w w' h hs hb => by
  unfold rdR at *
  by_cases h0 : rs.length = 0
  · simp only [if_pos h0] at *; exact h
  · simp only [if_neg h0] at *
    exact winR_stab 0 size v rs.length (rs.flatMap f) w w' h hs hb
theorem rdR_form (h : (rdR size f v rs).P W) : ∃ A cap, v = .slice A rs.length cap := by
  unfold rdR at h
  by_cases h0 : rs.length = 0
  · simp only [if_pos h0] at h
    obtain ⟨o, c, rfl⟩ := h
    exact ⟨o, c, by rw [h0]⟩
  · simp only [if_neg h0] at h
    exact h.form
theorem rdR_pos (h : (rdR size f v rs).P W) (hn : 0 < rs.length) : Win W 0 size v rs.length (rs.flatMap f) := by
  unfold rdR at h
  simp only [if_neg (show ¬ rs.length = 0 by omega)] at h
  exact h
theorem rdR_of (h : Win W 0 size v rs.length (rs.flatMap f)) : (rdR size f v rs).P W := by
  unfold rdR
  by_cases h0 : rs.length = 0
  · simp only [if_pos h0]
    obtain ⟨A, c, e⟩ := h.form
    exact ⟨A, c, by rw [e, h0]⟩
  · simp only [if_neg h0]; exact h
theorem rdR_eq (hn : 0 < rs.length) : rdR size f v rs = rowR size f v rs := by
  have h0 : ¬ rs.length = 0 := by omega
  unfold rdR rowR winR
  simp only [if_neg h0]
/-- where the element k lies -/
theorem rdR_range {A : Option Addr} {cap : Nat} (hf : ∀ r, (f r).length = size) (h : (rdR size f (.slice A rs.length cap) rs).P W) (k : Nat) (hk : k < rs.length) : ∃ g off, A = some ⟨g, off, none⟩ ∧ W.rangeAt g (off + k * size) (f rs[k]) ∧ g < W.heap.size := by
  have hW := rdR_pos h (by omega)
  obtain ⟨g, off, c, hv, hWA⟩ := hW.pos (by omega)
  injection hv with hv1 _ hv2
  subst hv1 hv2
  exact ⟨g, off, rfl, row_range hf hW k _ (List.getElem?_eq_getElem hk), hWA.lt⟩
theorem rd_kept (h : (rdR size f v rs).P W) {W' : World} (hb : Below W.heap.size W W') : (rdR size f v rs).P W' := by
  unfold rdR at *
  by_cases h0 : rs.length = 0
  · simp only [if_pos h0] at *; exact h
  · simp only [if_neg h0] at *; exact h.kept hb
end
section
variable {P : Program} {ops : Array Oper} {rest : List Oper} {op : Oper} {a : Act} {w w0 : World} {Q : Exit → Act → World → Prop} {E : Nat → Prop} {l : List Res}
theorem MemX.toRd {α : Type} {f : α → List Value} {size : Nat} {v : Value} {rs : List α} (h : MemX E w0 w l) (k : Nat) (hk : l[k]? = some (rowR size f v rs)) : (rdR size f v rs).P w := rdR_of (h.row k hk)
/-- all of a row, copied: 'append(s[:0:0], s...)' of one that has something -/
theorem wpList_clone_row {α : Type} {f : α → List Value} {size : Nat} (hgd : op.guard = none) (s x : Operand) (t e : TypeId) (ho : op.op = .call { callee := .builtin .append, args := #[s, x], argTypes := #[t, t] }) (ht : P.underlying t = some (.slice e))
    (bytes : Nat) (he : (P.info? e).map (fun i => (i.size, i.bytes, i.zero.map (·.cells.size))) = some (size, bytes, some size)) (hsz : 0 < size)
    (o : Option Addr) (hs : a.eval s = .slice o 0 0) (v : Value) (rs : List α) (hx : a.eval x = v) (hW : Win w 0 size v rs.length (rs.flatMap f)) (hn : 0 < rs.length)
    (hf : ∀ r, (f r).length = size) (h1 : ∀ r, ∀ u ∈ f r, u.oneCell' = true) (hb : rs.length * bytes ≤ 140737488355328) (hb2 : rs.length ≤ maxLen)
    (h : ∀ v' W, Mem w W [rowR size f v' rs] → wpList P ops Q rest (a.put op.dst v') W) : wpList P ops Q (op :: rest) a w := by
  obtain ⟨i, z, i0, i1, i2, i3, i4⟩ := elem_of he
  refine wpList_plain hgd fun K hK => ?_
  obtain ⟨g, off, cap, rfl, hWA⟩ := hW.pos hn
  obtain ⟨v', w', hr, h2, h3⟩ := run_append_new (P := P) w t op.type e i z size bytes ht i0 i1 i2 i3 i4 hsz o ⟨g, off, none⟩ rs.length cap (rs.flatMap f) hW.1 (fun j u hj => by rw [Addr.add_mid]; exact hWA.here j u hj) (fun u hu => by
    obtain ⟨r, _, hu⟩ := List.mem_flatMap.1 hu
    exact h1 r u hu) hn hb2 hb
  unfold Oper.wp execOp
  simp only [ho, resolve, invoke, builtin, Sem.run_bind, Sem.run_pure, Result.andThen_ok, List.map_toArray, List.map_cons, List.map_nil, hs, hx, hr]
  refine hK _ _ (h v' w' ?_)
  exact (Mem.nil w).push h3 (winR_stab _ _ _ _ _) (h2.low (Nat.zero_le _)) (fun g hg => h2.lt g hg)
/-- nothing appended -/
theorem wpList_clone_nil (hgd : op.guard = none) (s x : Operand) (t e : TypeId) (ho : op.op = .call { callee := .builtin .append, args := #[s, x], argTypes := #[t, t] })
    (v y : Value) (hr : (Builtin.append_ #[t, t] op.type #[v, y]).run P w = .ok v w) (hs : a.eval s = v) (hx : a.eval x = y)
    (h : wpList P ops Q rest (a.put op.dst v) w) : wpList P ops Q (op :: rest) a w := by
  refine wpList_plain hgd fun K hK => ?_
  unfold Oper.wp execOp
  simp only [ho, resolve, invoke, builtin, Sem.run_bind, Sem.run_pure, Result.andThen_ok, List.map_toArray, List.map_cons, List.map_nil, hs, hx, hr]
  exact hK _ _ h
end
end Go.Proofs.Ytfpifahkpkjfgaa
/- One struct of a row of one's own written. -/
namespace Go.Proofs.Ytfpifahkpkjfgaa
open Go.RowKit
set_option linter.unusedVariables false
set_option linter.unusedSectionVars false

/-- cells written one behind the other -/
def setLs : List Value → Nat → List Value → List Value
  | cs, _, [] => cs
  | cs, i, v :: vs => setLs (cs.set i v) (i + 1) vs
theorem setLs_len : ∀ (vs : List Value) (cs : List Value) (i : Nat), (setLs cs i vs).length = cs.length
  | [], cs, i => rfl
  | v :: vs, cs, i => by rw [setLs, setLs_len vs, List.length_set]
theorem setLs_mid : ∀ (vs A B C : List Value), B.length = vs.length → setLs (A ++ (B ++ C)) A.length vs = A ++ (vs ++ C)
  | [], A, B, C, h => by
    have : B = [] := List.eq_nil_of_length_eq_zero h
    subst this; rfl
  | v :: vs, A, [], C, h => by cases h
  | v :: vs, A, b :: B, C, h => by
    have e1 : (A ++ (b :: B ++ C)).set A.length v = (A ++ [v]) ++ (B ++ C) := by simp
    have e2 : A.length + 1 = (A ++ [v]).length := by simp
    rw [setLs, e1, e2, setLs_mid vs (A ++ [v]) B C (by simpa using h)]
    simp
theorem rows_len {α : Type} {f : α → List Value} {size : Nat} : ∀ (rs : List α), (∀ r ∈ rs, (f r).length = size) → (rs.flatMap f).length = rs.length * size
  | [], _ => by simp
  | r :: rs, h => by
    rw [List.flatMap_cons, List.length_append, h r List.mem_cons_self, rows_len rs fun q hq => h q (List.mem_cons_of_mem _ hq), List.length_cons, Nat.succ_mul, Nat.add_comm]
theorem setLs_row {α : Type} {f : α → List Value} {size : Nat} {rs : List α} (hf : ∀ r ∈ rs, (f r).length = size) {i : Nat} (hi : i < rs.length) (r' : α) (hr : (f r').length = size) : setLs (rs.flatMap f) (i * size) (f r') = (rs.set i r').flatMap f := by
  have h3 : rs.take i ++ rs[i] :: rs.drop (i + 1) = rs := by rw [← List.drop_eq_getElem_cons hi, List.take_append_drop]
  have h4 : (rs.take i).flatMap f ++ (f rs[i] ++ (rs.drop (i + 1)).flatMap f) = rs.flatMap f := by
    conv => rhs; rw [← h3]
    rw [List.flatMap_append, List.flatMap_cons]
  have h5 : rs.set i r' = rs.take i ++ r' :: rs.drop (i + 1) := by rw [List.set_eq_take_append_cons_drop, if_pos hi]
  have h6 : ((rs.take i).flatMap f).length = i * size := by
    rw [rows_len _ fun q hq => hf q (List.mem_of_mem_take hq), List.length_take, Nat.min_eq_left (by omega)]
  rw [h5, List.flatMap_append, List.flatMap_cons, ← h4, ← h6]
  exact setLs_mid _ _ _ _ (by rw [hf _ (List.getElem_mem hi), hr])
section
variable {w : World} {base size g off cap n : Nat} {cs : List Value}
theorem WinAt.storeC (h : WinAt w base size g off cap n cs) (hl : cs.length = n * size) (i : Nat) (hi : i < n * size) (v : Value) : WinAt (w.setCell ⟨g, off + i, none⟩ v) base size g off cap n (cs.set i v) := by
  refine ⟨h.ge, by simpa [World.setCell] using h.lt, h.le, h.mx, fun j u hj => ?_, fun j hj => ?_, fun j hj => by rw [World.frozen?_setCell]; exact h.soft j hj⟩
  · by_cases e : i = j
    · subst e
      rw [List.getElem?_set_self (by omega)] at hj
      cases hj
      obtain ⟨u0, hu0⟩ : ∃ u0, cs[i]? = some u0 := ⟨cs[i], List.getElem?_eq_getElem (by omega)⟩
      exact World.cell?_setCell_same _ _ _ (h.here i u0 hu0)
    · rw [List.getElem?_set_ne e] at hj
      rw [World.cell?_setCell_other _ _ _ _ (by intro x; injection x with _ x2 _; omega)]
      exact h.here j u hj
  · rw [World.cell?_setCell_other _ _ _ _ (by intro x; injection x with _ x2 _; omega), World.frozen?_setCell]
    exact h.spare j hj
theorem WinAt.storeL : ∀ (vs : List Value) {w : World} {cs : List Value} (i : Nat), WinAt w base size g off cap n cs → cs.length = n * size → i + vs.length ≤ n * size → WinAt (w.setCells g (off + i) vs) base size g off cap n (setLs cs i vs)
  | [], w, cs, i, h, _, _ => h
  | v :: vs, w, cs, i, h, hl, hi => by
    have h1 := h.storeC hl i (by rw [List.length_cons] at hi; omega) v
    exact WinAt.storeL vs (i + 1) h1 (by rw [List.length_set]; exact hl) (by rw [List.length_cons] at hi; omega)
end
section
variable {E : Nat → Prop} {P : Program} {ops : Array Oper} {rest : List Oper} {op : Oper} {a : Act} {w0 w : World} {Q : Exit → Act → World → Prop} {l : List Res}
theorem wpList_store_row {α : Type} {f : α → List Value} {size : Nat} (hgd : op.guard = none) (T : TypeId) (x y : Operand) (ho : op.op = .store T x y) (k g off m cap i : Nat) (rs : List α) (r : α) (hM : MemX E w0 w l) (hk : l[k]? = some (rowR size f (.slice (some ⟨g, off, none⟩) m cap) rs))
    (hf : ∀ r ∈ rs, (f r).length = size) (hi : i < rs.length) (hr : (f r).length = size) (hx : a.eval x = .pointer (some ⟨g, off + i * size, none⟩)) (hy : a.eval y = .agg (f r).toArray) (hs : (P.info? T).map (·.size) = some (f r).length) (h1 : (f r).all (·.oneCell') = true)
    (h : ∀ W, MemX E w0 W (l.set k (rowR size f (.slice (some ⟨g, off, none⟩) m cap) (rs.set i r))) → wpList P ops Q rest (a.put op.dst undef) W) : wpList P ops Q (op :: rest) a w := by
  have hW : Win w 0 size (.slice (some ⟨g, off, none⟩) m cap) rs.length (rs.flatMap f) := hM.row k hk
  obtain ⟨g', off', cap', e, hA⟩ := hW.pos (by omega)
  have hm : m = rs.length := by injection e
  subst hm
  injection e with e1 _ e3
  injection e1 with e1
  injection e1 with e4 e5 _
  subst e4; subst e5; subst e3
  have hlen := rows_len rs hf
  have hb : i * size + (f r).length ≤ rs.length * size := by
    rw [hr]
    have := Nat.mul_le_mul_right size (show i + 1 ≤ rs.length by omega)
    rw [Nat.succ_mul] at this; exact this
  have ht : w.there g (off + i * size) (f r).toArray.size := fun j hj => by
    rw [List.size_toArray] at hj
    rw [Nat.add_assoc]
    have hj2 : i * size + j < (rs.flatMap f).length := by omega
    exact ⟨by rw [hA.here (i * size + j) _ (List.getElem?_eq_getElem hj2)]; rfl, hA.soft _ (by omega)⟩
  refine wpList_store_mid hgd T x y ho g (off + i * size) (f r).toArray hx hy ht (by rw [List.size_toArray]; exact hs) (all_oneCell_toArray (fun v hv => List.all_eq_true.1 h1 v hv)) (h _ ?_)
  have hg : w.grownBy (w.setCells g (off + i * size) (f r)) (some g) := setCells_grownBy g (f r) (off + i * size) w
  have hA2 := hA.storeL (f r) (i * size) hlen hb
  have hgl : g < (w.setCells g (off + i * size) (f r)).heap.size := hA2.lt
  have := hM.upd (r' := rowR size f (.slice (some ⟨g, off, none⟩) rs.length cap) (rs.set i r)) k hk hg (winR_stab _ _ _ _ _) (by
    show Win _ 0 size _ (rs.set i r).length ((rs.set i r).flatMap f)
    rw [List.length_set]
    refine ⟨?_, .inr ⟨g, off, cap, rfl, ?_⟩⟩
    · rw [rows_len _ (fun q hq => ?_), List.length_set]
      rcases List.mem_or_eq_of_mem_set hq with hq | rfl
      · exact hf q hq
      · exact hr
    · rw [← setLs_row hf hi r hr]; exact hA2) (fun j hj => ⟨.inl hj, by
      have : g = j := Option.some.inj hj
      subst this; exact hgl⟩)
  simpa using this
/-- a row's structs as their cells -/
theorem row_raw {α : Type} (size : Nat) (f : α → List Value) (v : Value) (rs : List α) : rowR size f v rs = rowR size (fun r : List Value => r) v (rs.map f) := by
  unfold rowR
  rw [List.length_map, List.flatMap_map]
theorem rd_row {α : Type} (size : Nat) (f : α → List Value) (v : Value) (rs : List α) (h : rs.length ≠ 0) : rdR size f v rs = rowR size f v rs := by
  unfold rdR rowR winR
  simp only [if_neg h]
end
end Go.Proofs.Ytfpifahkpkjfgaa
/- A region that draws its order, step by step, with something that holds in every world on the way (I): what yields one value in all such worlds may be taken first; what stands alone is carried out. -/
namespace Go.Proofs.Ytfpifahkpkjfgaa
open Go Go.RowKit
set_option linter.unusedVariables false

section
variable {P : Program} {ops : Array Oper} {md : Region.Mode} {I : World → Prop} {X : List Nat} {Q : Exit → Act → World → Prop}
def wpI (P : Program) (md : Region.Mode) (ops : Array Oper) (I : World → Prop) (X : List Nat) (Q : Exit → Act → World → Prop) : Nat → Array Bool → Act → World → Prop
  | 0, done, a, w => Region.ready md ops done = [] ∧ Q .normal a w
  | f + 1, done, a, w => (Region.ready md ops done = [] → Q .normal a w) ∧
    ∀ i ∈ Region.ready md ops done, wpOp P ops Q i (fun a' w' => (i ∈ X ∨ (I w → I w')) ∧ wpI P md ops I X Q f (done.setIfInBounds i true) a' w') a w
theorem wpAny_of_wpI : ∀ (f : Nat) (done : Array Bool) (a : Act) (w : World), wpI P md ops I X Q f done a w → wpAny P md ops Q f done a w
  | 0, _, _, _, h => h
  | f + 1, _, _, _, h => ⟨h.1, fun i hi => wpOp_mono (fun a' w' h2 => wpAny_of_wpI f _ a' w' h2.2) (h.2 i hi)⟩
def YieldsI (P : Program) (ops : Array Oper) (I : World → Prop) (o : Oper) (v : Value) (a : Act) : Prop :=
  (Region.wanted o (yielded ops a.tmps) = true ∧ ∀ w, I w → (execOp a.eval o).run P w = .ok (.value v) w) ∨
  (Region.wanted o (yielded ops a.tmps) = false ∧ v = undef)
theorem YieldsI.wpOp {i : Nat} {o : Oper} {v : Value} {a : Act} {w : World} {K : Act → World → Prop} (hi : ops[i]? = some o) (hy : YieldsI P ops I o v a) (hw : I w) (h : K (a.put o.dst v) w) : Go.wpOp P ops Q i K a w := by
  unfold Go.wpOp
  simp only [hi]
  rcases hy with ⟨h1, h2⟩ | ⟨h1, rfl⟩
  · simp only [h1, if_true, Oper.wp, h2 w hw, Oper.upon]; exact .inl h
  · simp only [h1, Bool.false_eq_true, if_false]; exact h
theorem YieldsI.of_same {o : Oper} {v : Value} {a a' : Act} (hy : YieldsI P ops I o v a) (he : execOp a'.eval o = execOp a.eval o)
    (hw : Region.wanted o (yielded ops a'.tmps) = Region.wanted o (yielded ops a.tmps)) : YieldsI P ops I o v a' := by
  unfold YieldsI at *
  rw [he, hw]
  exact hy
theorem wpOp_putI {j : Nat} {oi oj : Oper} {v : Value} (hj : ops[j]? = some oj) (hap : oi.apart ops oj = true)
    (hsi : ∀ cs b, oi.op ≠ .select cs b) (hsj : ∀ cs b, oj.op ≠ .select cs b)
    (hQ : ∀ c a w, Q (.panic c) (a.put oi.dst v) w → Q (.panic c) a w) {K : Act → World → Prop} {a : Act} {w : World}
    (hy : YieldsI P ops I oi v a) (h : wpOp P ops Q j K (a.put oi.dst v) w) :
    wpOp P ops Q j (fun a' w' => YieldsI P ops I oi v a' ∧ K (a'.put oi.dst v) w') a w := by
  obtain ⟨h1, h2, h3⟩ := Oper.apart_spec hap
  have keep : ∀ (a : Act), YieldsI P ops I oi v a → ∀ u, YieldsI P ops I oi v (a.put oj.dst u) := fun a hy u =>
    hy.of_same (execOp_put oi hsi a oj.dst u h3) (wanted_put oi a oj.dst u h3)
  have keepD : ∀ d, YieldsI P ops I oi v { a with defers := d :: a.defers } := fun d => hy.of_same rfl rfl
  unfold wpOp at *
  simp only [hj] at *
  rw [wanted_put oj a oi.dst v h1] at h
  split
  · rename_i hw
    simp only [hw, if_true] at h
    rcases h with h | ⟨hasks, hlets⟩
    case inr => exact .inr ⟨by unfold Oper.asks at *; rw [execOp_put oj hsj a oi.dst v h1] at hasks; exact hasks, hlets⟩
    refine .inl ?_
    unfold Oper.wp at *
    rw [execOp_put oj hsj a oi.dst v h1] at h
    generalize (execOp a.eval oj).run P w = r at *
    cases r with
    | ok n w' =>
      cases n <;> simp only [Oper.upon] at h ⊢
      case value u => exact ⟨keep a hy u, by rw [← Act.put_comm a v u h2]; exact h⟩
      case skip => exact ⟨keep a hy _, by rw [← Act.put_comm a v undef h2]; exact h⟩
      case defer d =>
        refine ⟨keep _ (keepD d) _, ?_⟩
        rw [← Act.put_comm _ v undef h2, ← Act.put_defers]
        exact h
      case enter f args =>
        refine Calls.mono h fun e w'' he => ?_
        cases e with
        | returned u => exact ⟨keep a hy u, by rw [← Act.put_comm a v u h2]; exact he⟩
        | panicked c => exact hQ _ _ _ he
        | outgrown => exact he
      case row row args => exact Rows.mono h fun u w'' he => ⟨keep a hy u, by rw [← Act.put_comm a v u h2]; exact he⟩
    | halt x w' =>
      cases x <;> simp only [Oper.upon] at h ⊢
      case panic u => exact hQ _ _ _ h
  · rename_i hw
    simp only [hw] at h
    exact ⟨keep a hy _, by rw [← Act.put_comm a v undef h2]; exact h⟩
theorem wpI_first {i : Nat} {oi : Oper} {v : Value} (hi : ops[i]? = some oi) (hsel : ∀ (j : Nat) (o : Oper) cs b, ops[j]? = some o → o.op ≠ .select cs b)
    (hQ : ∀ c a w, Q (.panic c) (a.put oi.dst v) w → Q (.panic c) a w) :
    ∀ (fuel : Nat) (listed : Array Bool) (a : Act) (w : World),
      (∀ j oj, ops[j]? = some oj → j ≠ i → listed.getD j true = false → (∀ e ∈ oj.after, Region.binds md e = true → e.on ≠ i) → oi.apart ops oj = true) →
      (∀ x ∈ X, listed.getD x true = true ∨ ∃ ox, ops[x]? = some ox ∧ ∃ e ∈ ox.after, Region.binds md e = true ∧ e.on = i) →
      i ∈ Region.ready md ops listed → YieldsI P ops I oi v a → I w →
      wpI P md ops I X Q fuel (listed.setIfInBounds i true) (a.put oi.dst v) w → wpI P md ops I X Q (fuel + 1) listed a w := by
  intro fuel
  induction fuel with
  | zero =>
    intro listed a w _ hX hr hy hw H
    refine ⟨fun h => (by rw [h] at hr; cases hr), fun j hj => ?_⟩
    by_cases hji : j = i
    · subst hji; exact hy.wpOp hi hw ⟨.inr id, H⟩
    · have := ready_mono hj hji
      rw [H.1] at this
      cases this
  | succ fuel ih =>
    intro listed a w hfree hX hr hy hw H
    refine ⟨fun h => (by rw [h] at hr; cases hr), fun j hj => ?_⟩
    by_cases hji : j = i
    · subst hji; exact hy.wpOp hi hw ⟨.inr id, H⟩
    · have h1 := H.2 j (ready_mono hj hji)
      obtain ⟨hjun, oj, hoj, hall⟩ := mem_ready.1 hj
      have hnot : ∀ e ∈ oj.after, Region.binds md e = true → e.on ≠ i := fun e he hb heq => by
        have h1 := hall e he hb
        have h0 := (mem_ready.1 hr).1
        rw [heq] at h1
        rcases Nat.lt_or_ge i listed.size with h' | h'
        · simp [h'] at h0 h1; rw [h0] at h1; cases h1
        · simp [Array.getElem?_eq_none h'] at h1
      have h2 := wpOp_putI hoj (hfree j oj hoj hji hjun hnot) (fun cs b => hsel i oi cs b hi) (fun cs b => hsel j oj cs b hoj) hQ hy h1
      have hfree' : ∀ k ok, ops[k]? = some ok → k ≠ i → (listed.setIfInBounds j true).getD k true = false →
          (∀ e ∈ ok.after, Region.binds md e = true → e.on ≠ i) → oi.apart ops ok = true := fun k ok hk hki hun hno => by
        refine hfree k ok hk hki ?_ hno
        by_cases hjk : j = k
        · subst hjk; exact hjun
        · rw [getD_set_ne true hjk] at hun; exact hun
      have hjX : j ∉ X := fun hjx => by
        rcases hX j hjx with h4 | ⟨ox, h4, e, h5, h6, h7⟩
        · rw [hjun] at h4; cases h4
        · rw [hoj] at h4; cases h4
          exact hnot e h5 h6 h7
      have hX' : ∀ x ∈ X, (listed.setIfInBounds j true).getD x true = true ∨ ∃ ox, ops[x]? = some ox ∧ ∃ e ∈ ox.after, Region.binds md e = true ∧ e.on = i := fun x hx => (hX x hx).imp (fun h4 => by
        by_cases hjx : j = x
        · exact absurd (hjx ▸ hx) hjX
        · rw [getD_set_ne true hjx]; exact h4) id
      refine wpOp_mono (fun a' w' h3 => ⟨h3.2.1, ih (listed.setIfInBounds j true) a' w' hfree' hX' (ready_mono hr (Ne.symm hji)) h3.1 (h3.2.1.resolve_left hjX hw) ?_⟩) h2
      rw [Array.setIfInBounds_comm _ _ hji]
      exact h3.2.2
/-- what breaks I waits for i -/
def lateB (md : Region.Mode) (ops : Array Oper) (X : List Nat) (listed : Array Bool) (i : Nat) : Bool := X.all fun x => listed.getD x true || ((ops[x]?).map fun o => o.after.any fun e => Region.binds md e && e.on == i).getD false
theorem lateB_spec {listed : Array Bool} {i : Nat} (h : lateB md ops X listed i = true) : ∀ x ∈ X, listed.getD x true = true ∨ ∃ ox, ops[x]? = some ox ∧ ∃ e ∈ ox.after, Region.binds md e = true ∧ e.on = i := by
  intro x hx
  have h1 := List.all_eq_true.1 h x hx
  rw [Bool.or_eq_true] at h1
  refine h1.imp id fun h1 => ?_
  cases ho : ops[x]? with
  | none => rw [ho] at h1; cases h1
  | some o =>
    rw [ho] at h1
    obtain ⟨e, he, hb⟩ := Array.any_eq_true'.1 h1
    simp only [Bool.and_eq_true, beq_iff_eq] at hb
    exact ⟨o, rfl, e, he, hb.1, hb.2⟩
/-- what looks at no memory may be taken first whatever holds -/
theorem wpI_firstP {i : Nat} {oi : Oper} {v : Value} (hi : ops[i]? = some oi) (hsel : ∀ (j : Nat) (o : Oper) cs b, ops[j]? = some o → o.op ≠ .select cs b)
    (hQ : ∀ c a w, Q (.panic c) (a.put oi.dst v) w → Q (.panic c) a w) :
    ∀ (fuel : Nat) (listed : Array Bool) (a : Act) (w : World),
      (∀ j oj, ops[j]? = some oj → j ≠ i → listed.getD j true = false → (∀ e ∈ oj.after, Region.binds md e = true → e.on ≠ i) → oi.apart ops oj = true) →
      i ∈ Region.ready md ops listed → Yields P ops oi v a →
      wpI P md ops I X Q fuel (listed.setIfInBounds i true) (a.put oi.dst v) w → wpI P md ops I X Q (fuel + 1) listed a w := by
  intro fuel
  induction fuel with
  | zero =>
    intro listed a w _ hr hy H
    refine ⟨fun h => (by rw [h] at hr; cases hr), fun j hj => ?_⟩
    by_cases hji : j = i
    · subst hji; exact hy.wpOp hi ⟨.inr id, H⟩
    · have := ready_mono hj hji
      rw [H.1] at this
      cases this
  | succ fuel ih =>
    intro listed a w hfree hr hy H
    refine ⟨fun h => (by rw [h] at hr; cases hr), fun j hj => ?_⟩
    by_cases hji : j = i
    · subst hji; exact hy.wpOp hi ⟨.inr id, H⟩
    · have h1 := H.2 j (ready_mono hj hji)
      obtain ⟨hjun, oj, hoj, hall⟩ := mem_ready.1 hj
      have hnot : ∀ e ∈ oj.after, Region.binds md e = true → e.on ≠ i := fun e he hb heq => by
        have h1 := hall e he hb
        have h0 := (mem_ready.1 hr).1
        rw [heq] at h1
        rcases Nat.lt_or_ge i listed.size with h' | h'
        · simp [h'] at h0 h1; rw [h0] at h1; cases h1
        · simp [Array.getElem?_eq_none h'] at h1
      have h2 := wpOp_put hoj (hfree j oj hoj hji hjun hnot) (fun cs b => hsel i oi cs b hi) (fun cs b => hsel j oj cs b hoj) hQ hy h1
      have hfree' : ∀ k ok, ops[k]? = some ok → k ≠ i → (listed.setIfInBounds j true).getD k true = false →
          (∀ e ∈ ok.after, Region.binds md e = true → e.on ≠ i) → oi.apart ops ok = true := fun k ok hk hki hun hno => by
        refine hfree k ok hk hki ?_ hno
        by_cases hjk : j = k
        · subst hjk; exact hjun
        · rw [getD_set_ne true hjk] at hun; exact hun
      refine wpOp_mono (fun a' w' h3 => ⟨h3.2.1, ih (listed.setIfInBounds j true) a' w' hfree' (ready_mono hr (Ne.symm hji)) h3.1 ?_⟩) h2
      rw [Array.setIfInBounds_comm _ _ hji]
      exact h3.2.2
theorem wpI_takeP {i : Nat} {oi : Oper} {v : Value} {fuel : Nat} {listed : Array Bool} {a : Act} {w : World} (hi : ops[i]? = some oi)
    (hs : Region.noSelect ops = true) (hf : Region.free md ops listed i = true) (hr : (Region.ready md ops listed).contains i = true)
    (hQ : ∀ c a w, Q (.panic c) (a.put oi.dst v) w → Q (.panic c) a w) (hy : Yields P ops oi v a)
    (h : wpI P md ops I X Q fuel (listed.setIfInBounds i true) (a.put oi.dst v) w) : wpI P md ops I X Q (fuel + 1) listed a w :=
  wpI_firstP hi (Region.noSelect_spec hs) hQ fuel listed a w (Region.free_spec hi hf) (by simpa using hr) hy h
theorem wpI_take {i : Nat} {oi : Oper} {v : Value} {fuel : Nat} {listed : Array Bool} {a : Act} {w : World} (hi : ops[i]? = some oi)
    (hs : Region.noSelect ops = true) (hf : Region.free md ops listed i = true) (hr : (Region.ready md ops listed).contains i = true)
    (hl : lateB md ops X listed i = true) (hQ : ∀ c a w, Q (.panic c) (a.put oi.dst v) w → Q (.panic c) a w) (hw : I w) (hy : YieldsI P ops I oi v a)
    (h : wpI P md ops I X Q fuel (listed.setIfInBounds i true) (a.put oi.dst v) w) : wpI P md ops I X Q (fuel + 1) listed a w :=
  wpI_first hi (Region.noSelect_spec hs) hQ fuel listed a w (Region.free_spec hi hf) (lateB_spec hl) (by simpa using hr) hy hw h
/-- behind an operation that stands alone -/
def contI (P : Program) (md : Region.Mode) (ops : Array Oper) (I : World → Prop) (X : List Nat) (Q : Exit → Act → World → Prop) (f : Nat) (done : Array Bool) (i : Nat) (w0 : World) : Exit → Act → World → Prop
  | .normal, a, w => (i ∈ X ∨ (I w0 → I w)) ∧ wpI P md ops I X Q f done a w
  | e, a, w => Q e a w
theorem contI_normal {f i : Nat} {done : Array Bool} {a : Act} {w0 w : World} (hI : I w) (h : wpI P md ops I X Q f done a w) : contI P md ops I X Q f done i w0 .normal a w := ⟨.inr fun _ => hI, h⟩
theorem contI_late {f i : Nat} {done : Array Bool} {a : Act} {w0 w : World} (hX : i ∈ X) (h : wpI P md ops I X Q f done a w) : contI P md ops I X Q f done i w0 .normal a w := ⟨.inl hX, h⟩
theorem letsOut_cont {f i : Nat} {done : Array Bool} {w0 : World} (h : LetsOut (contI P md ops I X Q f done i w0)) : LetsOut Q := h
theorem wpI_one {i : Nat} {oi : Oper} {fuel : Nat} {listed : Array Bool} {a : Act} {w : World} (hi : ops[i]? = some oi) (hr : Region.ready md ops listed = [i])
    (h : wpList P ops (contI P md ops I X Q fuel (listed.setIfInBounds i true) i w) [oi] a w) : wpI P md ops I X Q (fuel + 1) listed a w := by
  refine ⟨fun h0 => (by rw [hr] at h0; cases h0), fun j hj => ?_⟩
  rw [hr, List.mem_singleton] at hj
  subst hj
  unfold Go.wpOp
  simp only [hi]
  unfold wpList at h
  split
  · rename_i hw
    rw [if_pos hw] at h
    rcases h with h | ⟨h1, h2⟩
    · refine .inl ?_
      unfold Oper.wp at *
      generalize (execOp a.eval oi).run P w = r at *
      cases r with
      | ok n w' =>
        cases n <;> simp only [Oper.upon] at h ⊢
        case enter f args =>
          refine Calls.mono h fun e w'' he => ?_
          cases e with
          | returned u => exact he
          | panicked c => exact he
          | outgrown => exact he
        all_goals exact h
      | halt x w' =>
        cases x <;> simp only [Oper.upon] at h ⊢
        case panic u => exact h
    · exact .inr ⟨h1, h2⟩
  · rename_i hw
    rw [if_neg hw] at h
    exact h
theorem wpI_done {listed : Array Bool} {a : Act} {w : World} (hr : Region.ready md ops listed = []) (h : Q .normal a w) : ∀ fuel, wpI P md ops I X Q fuel listed a w
  | 0 => ⟨hr, h⟩
  | _ + 1 => ⟨fun _ => h, by rw [hr]; simp⟩
theorem wp_region_I {id : Nat} {a : Act} {w : World} (I : World → Prop) (X : List Nat) (hm : P.follows .mixedOrders = true)
    (h : wpI P .any ops I X Q ops.size (Array.replicate ops.size false) a w.drew) : (Code.region id ops true).wp P Q a w :=
  wp_region_any hm (wpAny_of_wpI _ _ _ _ h)
end
/-- these things of the list hold -/
def holdsAt (l : List Res) (W : World) : List Nat → Prop
  | [] => True
  | k :: ks => (∀ r, l[k]? = some r → r.P W) ∧ holdsAt l W ks
/-- .. over what is known of the call's own memory: the things numbered ks stay as they are while it is carried out -/
theorem wp_region_M {P : Program} {l : List Res} {E : Nat → Prop} {w0 w : World} {id : Nat} {a : Act} {Q : Exit → Act → World → Prop} {os : List Oper} (ks X : List Nat) (hM : MemX E w0 w l) (hm : P.follows .mixedOrders = true)
    (h : ∀ W, MemX E w0 W l → wpI P .any os.toArray (fun W => holdsAt l W ks) X Q os.length (Array.replicate os.length false) a W) : (Code.region id os.toArray true).wp P Q a w := by
  have := h w.drew (hM.kept (Below.refl _ _).drew)
  exact wp_region_I _ X hm (by simpa using this)
end Go.Proofs.Ytfpifahkpkjfgaa
