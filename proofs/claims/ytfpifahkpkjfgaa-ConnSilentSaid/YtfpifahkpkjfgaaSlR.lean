/- Rows of structs: an element stored over, the end cut off, a copy of all, and what is only read. -/
import Derived.Test.YtfpifahkpkjfgaaSl
import Derived.Test.YtfpifahkpkjfgaaHand
namespace Go.Proofs.Ytfpifahkpkjfgaa
open Go.RowKit
set_option linter.unusedVariables false

section
variable {P : Program} {w w' : World} {base size g off cap n : Nat} {cs : List Value}
/-- an element stored over -/
theorem WinAt.setAt (h : WinAt w base size g off cap n cs) (hcs : cs.length = n * size) (i : Nat) (hi : i < n) (x : List Value) (hx : x.length = size) :
    WinAt (w.setCells g (off + i * size) x) base size g off cap n (cs.take (i * size) ++ (x ++ cs.drop ((i + 1) * size))) ∧ w.grownBy (w.setCells g (off + i * size) x) (some g) ∧ w.there g (off + i * size) size := by
  have hi1 : (i + 1) * size = i * size + size := by rw [Nat.add_mul, Nat.one_mul]
  have hle : i * size + size ≤ n * size := by rw [← hi1]; exact Nat.mul_le_mul_right _ hi
  have hcap : n * size ≤ cap * size := Nat.mul_le_mul_right _ h.le
  have hg := setCells_grownBy g x (off + i * size) w
  have htk : (cs.take (i * size)).length = i * size := by rw [List.length_take, hcs]; omega
  have hth : w.there g (off + i * size) size := fun j hj => by
    rw [Nat.add_assoc]; exact h.cellAt hcs _ (by omega)
  refine ⟨⟨h.ge, Nat.lt_of_lt_of_le h.lt hg.size, h.le, h.mx, fun j u hj => ?_, fun j hj => ?_, fun j hj => by rw [World.frozen?_setCells]; exact h.soft j hj⟩, hg, hth⟩
  · by_cases hlt : j < i * size
    · rw [List.getElem?_append_left (by omega), List.getElem?_take, if_pos hlt] at hj
      rw [World.cell?_setCells_out g _ _ w _ (fun _ _ => .inl (by show off + j < _; omega))]
      exact h.here j u hj
    · rw [List.getElem?_append_right (by omega), htk] at hj
      by_cases hlt2 : j - i * size < x.length
      · rw [List.getElem?_append_left hlt2] at hj
        have := World.cell?_setCells_in g x (off + i * size) w (fun q hq => (hth q (by omega)).1) (j - i * size) hlt2
        rw [show off + i * size + (j - i * size) = off + j by omega] at this
        rw [this, ← hj, List.getElem?_eq_getElem hlt2]
      · rw [List.getElem?_append_right (by omega), List.getElem?_drop] at hj
        rw [World.cell?_setCells_out g _ _ w _ (fun _ _ => .inr (by show off + i * size + x.length ≤ off + j; omega))]
        exact h.here j u (by rw [← hj]; congr 1; omega)
  · rw [World.frozen?_setCells, World.cell?_setCells_out g _ _ w _ (fun _ _ => .inr (by show off + i * size + x.length ≤ off + n * size + j; omega))]
    exact h.spare j hj
/-- the end cut off -/
theorem WinAt.shrink (h : WinAt w base size g off cap n cs) (hcs : cs.length = n * size) (m : Nat) (hm : m ≤ n) : WinAt w base size g off cap m (cs.take (m * size)) := by
  have h1 : m * size ≤ n * size := Nat.mul_le_mul_right _ hm
  have h2 : n * size ≤ cap * size := Nat.mul_le_mul_right _ h.le
  refine ⟨h.ge, h.lt, Nat.le_trans hm h.le, h.mx, fun j u hj => h.here j u ?_, fun j hj => ?_, fun j hj => h.soft j (by omega)⟩
  · rw [List.getElem?_take] at hj
    split at hj
    · exact hj
    · cases hj
  · rw [Nat.add_assoc]
    exact h.cellAt hcs _ (by rw [Nat.sub_mul] at hj; omega)
/-- a slice without room, and something appended -/
theorem run_append_new (w : World) (t ty e : TypeId) (i : TypeInfo) (z : Value) (size bytes : Nat) (ht : P.underlying t = some (.slice e)) (hi : P.info? e = some i) (hz : i.zero = some z)
    (hsize : i.size = size) (hby : i.bytes = bytes) (hzs : z.cells.size = size) (hsz : 0 < size)
    (o : Option Addr) (a : Addr) (m c : Nat) (news : List Value) (hl : news.length = m * size) (hnews : ∀ j u, news[j]? = some u → w.cell? (a.add j) = some u) (h1 : ∀ u ∈ news, u.oneCell' = true)
    (hm : 0 < m) (h63 : m ≤ maxLen) (hbytes : m * bytes ≤ 140737488355328) :
    ∃ v' w', (Builtin.append_ #[t, t] ty #[.slice o 0 0, .slice (some a) m c]).run P w = .ok v' w' ∧ Win w' w.heap.size size v' m news ∧ Below w.heap.size w w' := by
  cases o with
  | none =>
    obtain ⟨v', w', hr, h2, h3, h4, h5⟩ := run_append_own_at (P := P) w w.heap.size t ty e i z size bytes ht hi hz hsize hby hzs hsz (.slice none 0 0) 0 [] (World.ownsRow_nil _ _ _ _) a m c news hl hnews h1 (by omega) (by rw [Nat.zero_add]; exact hbytes) (Nat.le_refl _)
    rw [Nat.zero_add, List.nil_append] at h2
    exact ⟨v', w', hr, Win.of_owns h2, ⟨h3.os, h3.tape, h3.output, h3.size, fun k hk => h3.block k hk (by simp [Value.ownBlock])⟩⟩
  | some b =>
    obtain ⟨v', w', hr, h2, h3⟩ := run_append_arg_grows (P := P) w t ty e i z size bytes ht hi hz hsize hby hzs hsz b 0 0 [] (by simp) (fun j u hj => by simp at hj) a m c news hl hnews (by omega) (by omega) (by rw [Nat.zero_add]; exact hbytes)
    rw [Nat.zero_add, List.nil_append] at h2
    exact ⟨v', w', hr, Win.of_owns h2, ⟨h3.os, h3.tape, h3.output, h3.size, fun k hk => h3.block k hk (by simp)⟩⟩
end
/-- 's == nil' -/
theorem run_eql_sl_nil {P : Program} (w : World) {t e : TypeId} (a : Option Addr) (n c : Nat) (ht : P.underlying t = some (.slice e)) :
    (binOp .eql t (.slice a n c) (.slice none 0 0)).run P w = .ok (.bool a.isNone) w := by
  have h : ∀ d : Nat, (Op.equalIn (d + 1) t (.slice a n c) (.slice none 0 0)).run P w = .ok a.isNone w := fun d => by
    cases a <;> simp [Op.equalIn, run_underlying ht]
  simp only [binOp]
  simp [Op.equal, Op.maxDepth, h 9999]
theorem take_flat {α : Type} {f : α → List Value} {size : Nat} (hf : ∀ r, (f r).length = size) : ∀ (rs : List α) (k : Nat), (rs.take k).flatMap f = (rs.flatMap f).take (k * size)
  | [], k => by simp
  | r :: rs, 0 => by simp
  | r :: rs, k + 1 => by
    have ih := take_flat hf rs k
    rw [List.take_succ_cons, List.flatMap_cons, List.flatMap_cons, ih, List.take_append, hf]
    rw [show (k + 1) * size = size + k * size by rw [Nat.add_mul]; omega, List.take_of_length_le (l := f r) (by rw [hf]; omega), Nat.add_sub_cancel_left]
theorem set_flat {α : Type} {f : α → List Value} {size : Nat} (hf : ∀ r, (f r).length = size) : ∀ (rs : List α) (k : Nat) (x : α), k < rs.length → (rs.set k x).flatMap f = (rs.flatMap f).take (k * size) ++ (f x ++ (rs.flatMap f).drop ((k + 1) * size))
  | [], k, x, h => by simp at h
  | r :: rs, 0, x, h => by
    rw [List.set_cons_zero, List.flatMap_cons, List.flatMap_cons, Nat.zero_mul, List.take_zero, List.nil_append, Nat.zero_add, Nat.one_mul, List.drop_left' (hf r)]
  | r :: rs, k + 1, x, h => by
    have ih := set_flat hf rs k x (by simpa using h)
    rw [List.set_cons_succ, List.flatMap_cons, List.flatMap_cons, ih]
    rw [show (k + 1) * size = size + k * size by rw [Nat.add_mul]; omega, show (k + 1 + 1) * size = size + (size + k * size) by simp only [Nat.add_mul]; omega]
    rw [List.take_append, List.drop_append, hf, List.take_of_length_le (l := f r) (by rw [hf]; omega), show List.drop (size + (size + k * size)) (f r) = [] from List.drop_eq_nil_of_le (by rw [hf]; omega), List.nil_append, List.append_assoc, show size + k * size - size = k * size by omega, show size + (size + k * size) - size = size + k * size by omega]
theorem flat_len {α : Type} {f : α → List Value} {size : Nat} (hf : ∀ r, (f r).length = size) : ∀ (rs : List α), (rs.flatMap f).length = rs.length * size
  | [] => by simp
  | r :: rs => by rw [List.flatMap_cons, List.length_append, hf, flat_len hf rs, List.length_cons, Nat.add_mul]; omega
/-- a row that is only read: one that has nothing may lie anywhere -/
def rdR {α : Type} (size : Nat) (f : α → List Value) (v : Value) (rs : List α) : Res :=
  ⟨if rs.length = 0 then none else v.ownBlock, fun W => if rs.length = 0 then ∃ o c, v = .slice o 0 c else Win W 0 size v rs.length (rs.flatMap f)⟩
section
variable {α : Type} {size : Nat} {f : α → List Value} {v : Value} {rs : List α} {W : World}
theorem rdR_stab : (rdR size f v rs).Stab := fun w w' h hs hb => by
  unfold rdR at *
  by_cases h0 : rs.length = 0
  · simp only [if_pos h0] at *; exact h
  · simp only [if_neg h0] at *
    exact winR_stab 0 size v rs.length (rs.flatMap f) w w' h hs hb
theorem rdR_form (h : (rdR size f v rs).P W) : ∃ A cap, v = .slice A rs.length cap := by
  unfold rdR at h
  by_cases h0 : rs.length = 0
  · simp only [if_pos h0] at h
    obtain ⟨o, c, rfl⟩ := h
    exact ⟨o, c, by rw [h0]⟩
  · simp only [if_neg h0] at h
    exact h.form
theorem rdR_pos (h : (rdR size f v rs).P W) (hn : 0 < rs.length) : Win W 0 size v rs.length (rs.flatMap f) := by
  unfold rdR at h
  simp only [if_neg (show ¬ rs.length = 0 by omega)] at h
  exact h
theorem rdR_of (h : Win W 0 size v rs.length (rs.flatMap f)) : (rdR size f v rs).P W := by
  unfold rdR
  by_cases h0 : rs.length = 0
  · simp only [if_pos h0]
    obtain ⟨A, c, e⟩ := h.form
    exact ⟨A, c, by rw [e, h0]⟩
  · simp only [if_neg h0]; exact h
theorem rdR_eq (hn : 0 < rs.length) : rdR size f v rs = rowR size f v rs := by
  have h0 : ¬ rs.length = 0 := by omega
  unfold rdR rowR winR
  simp only [if_neg h0]
/-- where the element k lies -/
theorem rdR_range {A : Option Addr} {cap : Nat} (hf : ∀ r, (f r).length = size) (h : (rdR size f (.slice A rs.length cap) rs).P W) (k : Nat) (hk : k < rs.length) : ∃ g off, A = some ⟨g, off, none⟩ ∧ W.rangeAt g (off + k * size) (f rs[k]) ∧ g < W.heap.size := by
  have hW := rdR_pos h (by omega)
  obtain ⟨g, off, c, hv, hWA⟩ := hW.pos (by omega)
  injection hv with hv1 _ hv2
  subst hv1 hv2
  exact ⟨g, off, rfl, row_range hf hW k _ (List.getElem?_eq_getElem hk), hWA.lt⟩
theorem rd_kept (h : (rdR size f v rs).P W) {W' : World} (hb : Below W.heap.size W W') : (rdR size f v rs).P W' := by
  unfold rdR at *
  by_cases h0 : rs.length = 0
  · simp only [if_pos h0] at *; exact h
  · simp only [if_neg h0] at *; exact h.kept hb
end
section
variable {P : Program} {ops : Array Oper} {rest : List Oper} {op : Oper} {a : Act} {w w0 : World} {Q : Exit → Act → World → Prop} {E : Nat → Prop} {l : List Res}
theorem MemX.toRd {α : Type} {f : α → List Value} {size : Nat} {v : Value} {rs : List α} (h : MemX E w0 w l) (k : Nat) (hk : l[k]? = some (rowR size f v rs)) : (rdR size f v rs).P w := rdR_of (h.row k hk)
/-- all of a row, copied: 'append(s[:0:0], s...)' of one that has something -/
theorem wpList_clone_row {α : Type} {f : α → List Value} {size : Nat} (hgd : op.guard = none) (s x : Operand) (t e : TypeId) (ho : op.op = .call { callee := .builtin .append, args := #[s, x], argTypes := #[t, t] }) (ht : P.underlying t = some (.slice e))
    (bytes : Nat) (he : (P.info? e).map (fun i => (i.size, i.bytes, i.zero.map (·.cells.size))) = some (size, bytes, some size)) (hsz : 0 < size)
    (o : Option Addr) (hs : a.eval s = .slice o 0 0) (v : Value) (rs : List α) (hx : a.eval x = v) (hW : Win w 0 size v rs.length (rs.flatMap f)) (hn : 0 < rs.length)
    (hf : ∀ r, (f r).length = size) (h1 : ∀ r, ∀ u ∈ f r, u.oneCell' = true) (hb : rs.length * bytes ≤ 140737488355328) (hb2 : rs.length ≤ maxLen)
    (h : ∀ v' W, Mem w W [rowR size f v' rs] → wpList P ops Q rest (a.put op.dst v') W) : wpList P ops Q (op :: rest) a w := by
  obtain ⟨i, z, i0, i1, i2, i3, i4⟩ := elem_of he
  refine wpList_plain hgd fun K hK => ?_
  obtain ⟨g, off, cap, rfl, hWA⟩ := hW.pos hn
  obtain ⟨v', w', hr, h2, h3⟩ := run_append_new (P := P) w t op.type e i z size bytes ht i0 i1 i2 i3 i4 hsz o ⟨g, off, none⟩ rs.length cap (rs.flatMap f) hW.1 (fun j u hj => by rw [Addr.add_mid]; exact hWA.here j u hj) (fun u hu => by
    obtain ⟨r, _, hu⟩ := List.mem_flatMap.1 hu
    exact h1 r u hu) hn hb2 hb
  unfold Oper.wp execOp
  simp only [ho, resolve, invoke, builtin, Sem.run_bind, Sem.run_pure, Result.andThen_ok, List.map_toArray, List.map_cons, List.map_nil, hs, hx, hr]
  refine hK _ _ (h v' w' ?_)
  exact (Mem.nil w).push h3 (winR_stab _ _ _ _ _) (h2.low (Nat.zero_le _)) (fun g hg => h2.lt g hg)
/-- nothing appended -/
theorem wpList_clone_nil (hgd : op.guard = none) (s x : Operand) (t e : TypeId) (ho : op.op = .call { callee := .builtin .append, args := #[s, x], argTypes := #[t, t] })
    (v y : Value) (hr : (Builtin.append_ #[t, t] op.type #[v, y]).run P w = .ok v w) (hs : a.eval s = v) (hx : a.eval x = y)
    (h : wpList P ops Q rest (a.put op.dst v) w) : wpList P ops Q (op :: rest) a w := by
  refine wpList_plain hgd fun K hK => ?_
  unfold Oper.wp execOp
  simp only [ho, resolve, invoke, builtin, Sem.run_bind, Sem.run_pure, Result.andThen_ok, List.map_toArray, List.map_cons, List.map_nil, hs, hx, hr]
  exact hK _ _ h
end
end Go.Proofs.Ytfpifahkpkjfgaa
