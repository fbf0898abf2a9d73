/- What package slices does to a row of one's own: an element taken out, the spare cells cleared. -/
import Derived.Test.YtfpifahkpkjfgaaRow
import Derived.Test.YtfpifahkpkjfgaaQMix
import Derived.Lib.SliceRun
namespace Go.Proofs.Ytfpifahkpkjfgaa
open Go.RowKit
set_option linter.unusedVariables false

section
variable {P : Program} {w w' : World} {base size g off cap n : Nat} {cs : List Value}
theorem WinAt.cellAt (h : WinAt w base size g off cap n cs) (hcs : cs.length = n * size) (j : Nat) (hj : j < cap * size) : (w.cell? ⟨g, off + j, none⟩).isSome = true ∧ w.frozen? ⟨g, off + j, none⟩ = false := by
  by_cases hlt : j < n * size
  · exact ⟨by rw [h.here j cs[j] (List.getElem?_eq_getElem (by omega))]; rfl, h.soft j hlt⟩
  · have hle := Nat.mul_le_mul_right size h.le
    have := h.spare (j - n * size) (by rw [Nat.sub_mul]; omega)
    rwa [show off + n * size + (j - n * size) = off + j by omega] at this
/-- the element k taken out by append(s[:k], s[k+1:]...) -/
theorem run_append_del (t e ty : TypeId) (i : TypeInfo) (ht : P.underlying t = some (.slice e)) (hi : P.info? e = some i) (hsize : i.size = size) (h : WinAt w base size g off cap n cs) (hcs : cs.length = n * size) (h1 : ∀ u ∈ cs, u.oneCell' = true) (k c : Nat) (hk : k < n) (a : Addr) (ha : a = ⟨g, off + (k + 1) * size, none⟩ ∨ n = k + 1) :
    ∃ w', (Builtin.append_ #[t, t] ty #[.slice (some ⟨g, off, none⟩) k cap, .slice (some a) (n - (k + 1)) c]).run P w = .ok (.slice (some ⟨g, off, none⟩) (n - 1) cap) w' ∧ WinAt w' base size g off cap (n - 1) (cs.take (k * size) ++ cs.drop ((k + 1) * size)) ∧ w.grownBy w' (some g) := by
  subst hsize
  have hk1 : (k + 1) * i.size = k * i.size + i.size := by rw [Nat.add_mul, Nat.one_mul]
  have hnk : (n - (k + 1)) * i.size = n * i.size - (k * i.size + i.size) := by rw [Nat.sub_mul, hk1]
  have hn1 : (n - 1) * i.size = n * i.size - i.size := by rw [Nat.sub_mul, Nat.one_mul]
  have hle : k * i.size + i.size ≤ n * i.size := by rw [← hk1]; exact Nat.mul_le_mul_right _ hk
  have hcap : n * i.size ≤ cap * i.size := Nat.mul_le_mul_right _ h.le
  have hl : (cs.drop ((k + 1) * i.size)).length = (n - (k + 1)) * i.size := by rw [List.length_drop, hcs, hnk, hk1]
  have hcl : ∀ j, j < (cs.drop ((k + 1) * i.size)).length → (w.cell? ⟨g, off + k * i.size + j, none⟩).isSome = true ∧ w.frozen? ⟨g, off + k * i.size + j, none⟩ = false := fun j hj => by
    rw [Nat.add_assoc]
    exact h.cellAt hcs _ (by rw [hl, hnk] at hj; omega)
  have hr := run_append_room_cells (P := P) w t ty e i ht hi g off k cap a (n - (k + 1)) c (cs.drop ((k + 1) * i.size)) hl (fun j u hj => by
    rcases ha with rfl | h0
    · rw [List.getElem?_drop] at hj
      rw [Addr.add_mid, Nat.add_assoc]
      exact h.here _ u hj
    · have : j < (cs.drop ((k + 1) * i.size)).length := (List.getElem?_eq_some_iff.1 hj).1
      rw [hl, h0] at this
      simp at this) (fun u hu => h1 u (List.mem_of_mem_drop hu)) (by have := h.le; omega) (fun j hj => (hcl j hj).1) (fun j hj => (hcl j hj).2)
  rw [show k + (n - (k + 1)) = n - 1 by omega] at hr
  have hg := setCells_grownBy g (cs.drop ((k + 1) * i.size)) (off + k * i.size) w
  refine ⟨_, hr, ⟨h.ge, Nat.lt_of_lt_of_le h.lt hg.size, by have := h.le; omega, h.mx, fun j u hj => ?_, fun j hj => ?_, fun j hj => ?_⟩, hg⟩
  · have htk : (cs.take (k * i.size)).length = k * i.size := by rw [List.length_take, hcs]; omega
    by_cases hlt : j < k * i.size
    · rw [List.getElem?_append_left (by omega), List.getElem?_take, if_pos hlt] at hj
      rw [World.cell?_setCells_out g _ _ w _ (fun _ _ => .inl (by show off + j < _; omega))]
      exact h.here j u hj
    · rw [List.getElem?_append_right (by omega), htk] at hj
      have hj' : j - k * i.size < (cs.drop ((k + 1) * i.size)).length := (List.getElem?_eq_some_iff.1 hj).1
      have := World.cell?_setCells_in g (cs.drop ((k + 1) * i.size)) (off + k * i.size) w (fun j hj => (hcl j hj).1) (j - k * i.size) hj'
      rw [show off + k * i.size + (j - k * i.size) = off + j by omega] at this
      rw [this, ← hj, List.getElem?_eq_getElem hj']
  · have e1 : off + (n - 1) * i.size + j = off + k * i.size + ((n - 1) * i.size - k * i.size + j) := by omega
    rw [Nat.sub_mul, hn1] at hj
    refine ⟨?_, by rw [World.frozen?_setCells]; rw [Nat.add_assoc]; exact (h.cellAt hcs _ (by omega)).2⟩
    rw [World.cell?_setCells_out g _ _ w _ (fun _ _ => .inr (by show off + k * i.size + (cs.drop ((k + 1) * i.size)).length ≤ off + (n - 1) * i.size + j; rw [hl, hnk]; omega))]
    rw [Nat.add_assoc]; exact (h.cellAt hcs _ (by omega)).1
  · rw [World.frozen?_setCells]; exact (h.cellAt hcs _ (by rw [hn1] at hj; omega)).2
theorem run_append_del' {m : Nat} (t e ty : TypeId) (i : TypeInfo) (ht : P.underlying t = some (.slice e)) (hi : P.info? e = some i) (hsize : i.size = size) (h : WinAt w base size g off cap (m + 1) cs) (hcs : cs.length = (m + 1) * size) (h1 : ∀ u ∈ cs, u.oneCell' = true) (k c : Nat) (hk : k ≤ m) (a : Addr) (ha : a = ⟨g, off + (k + 1) * size, none⟩ ∨ m = k) {cs' : List Value} (he : cs.take (k * size) ++ cs.drop ((k + 1) * size) = cs') :
    ∃ w', (Builtin.append_ #[t, t] ty #[.slice (some ⟨g, off, none⟩) k cap, .slice (some a) (m - k) c]).run P w = .ok (.slice (some ⟨g, off, none⟩) m cap) w' ∧ WinAt w' base size g off cap m cs' ∧ w.grownBy w' (some g) := by
  have := run_append_del t e ty i ht hi hsize h hcs h1 k c (by omega) a (ha.imp id (fun e => by rw [e]))
  rw [Nat.add_sub_cancel, Nat.add_sub_add_right, he] at this
  exact this
/-- clear over spare cells -/
theorem run_clear_win (t e ty : TypeId) (z : Value) (ht : P.underlying t = some (.slice e)) (hv : ∀ w, (zeroValue e).run P w = .ok z w) (hz : z.cells.size = size) (hsz : 0 < size) (h1 : ∀ v ∈ z.cells, v.oneCell' = true) (h : WinAt w base size g off cap n cs) (hcs : cs.length = n * size) (q c : Nat) (hq : 0 < q) (hqc : n + q ≤ cap) :
    ∃ w', (Builtin.clear_ #[t] ty #[.slice (some ⟨g, off + n * size, none⟩) q c]).run P w = .ok (.tuple #[]) w' ∧ WinAt w' base size g off cap n cs ∧ w.grownBy w' (some g) := by
  have hlen : (Builtin.zeroCells z.cells q).toList.length = q * size := by simp [Builtin.zeroCells, hz]
  have hone : ∀ v ∈ (Builtin.zeroCells z.cells q).toList, v.oneCell' = true := fun v hv' => by
    simp only [Builtin.zeroCells, Array.toList_map, List.mem_map] at hv'
    obtain ⟨i, _, rfl⟩ := hv'
    have hlt : i % z.cells.size < z.cells.size := Nat.mod_lt _ (by omega)
    rw [getElem!_pos z.cells _ hlt]
    exact h1 _ (Array.getElem_mem hlt)
  have hsp : ∀ j, j < q * size → (w.cell? ⟨g, off + n * size + j, none⟩).isSome = true ∧ w.frozen? ⟨g, off + n * size + j, none⟩ = false := fun j hj =>
    h.spare j (Nat.lt_of_lt_of_le hj (Nat.mul_le_mul_right _ (by omega)))
  have hst := run_storeCells_cells (P := P) g (off + n * size) (Builtin.zeroCells z.cells q).toList 0 w (fun j hj => by simpa using (hsp j (by omega)).1) (fun j hj => by simpa using (hsp j (by omega)).2) hone
  simp only [Nat.add_zero] at hst
  have hg := setCells_grownBy g (Builtin.zeroCells z.cells q).toList (off + n * size) w
  refine ⟨w.setCells g (off + n * size) (Builtin.zeroCells z.cells q).toList, ?_, ⟨h.ge, Nat.lt_of_lt_of_le h.lt hg.size, h.le, h.mx, fun j u hj => ?_, fun j hj => ?_, fun j hj => by rw [World.frozen?_setCells]; exact h.soft j hj⟩, hg⟩
  · obtain ⟨m, rfl⟩ : ∃ m, q = m + 1 := ⟨q - 1, by omega⟩
    simp [Builtin.clear_, run_underlying ht, hv, hst]
  · have hjl : j < n * size := by rw [← hcs]; exact (List.getElem?_eq_some_iff.1 hj).1
    rw [World.cell?_setCells_out g _ _ w _ (fun _ _ => .inl (by show off + j < off + n * size; omega))]
    exact h.here j u hj
  · refine ⟨?_, by rw [World.frozen?_setCells]; exact (h.spare j hj).2⟩
    by_cases hlt : j < (Builtin.zeroCells z.cells q).toList.length
    · rw [World.cell?_setCells_in g _ (off + n * size) w (fun j hj => (hsp j (by omega)).1) j hlt]; rfl
    · rw [World.cell?_setCells_out g _ _ w _ (fun _ _ => .inr (by show off + n * size + _ ≤ off + n * size + j; omega))]
      exact (h.spare j hj).1
end
section
variable {P : Program} {w : World} {ops : Array Oper} {rest : List Oper} {o : Oper} {a : Act} {Q : Exit → Act → World → Prop}
theorem wpList_append_run (hgd : o.guard = none) (s x : Operand) (t u : TypeId) (ho : o.op = .call { callee := .builtin .append, args := #[s, x], argTypes := #[t, u] }) (vs vx : Value) (hs : a.eval s = vs) (hx : a.eval x = vx) (v' : Value) (w' : World)
    (hr : (Builtin.append_ #[t, u] o.type #[vs, vx]).run P w = .ok v' w') (h : wpList P ops Q rest (a.put o.dst v') w') : wpList P ops Q (o :: rest) a w := by
  refine wpList_plain hgd fun K hK => ?_
  unfold Oper.wp execOp
  simp only [ho, resolve, invoke, builtin, Sem.run_bind, Sem.run_pure, Result.andThen_ok, List.map_toArray, List.map_cons, List.map_nil, hs, hx, hr]
  exact hK _ _ h
theorem wpList_clear_run (hgd : o.guard = none) (x : Operand) (t : TypeId) (ho : o.op = .call { callee := .builtin .clear, args := #[x], argTypes := #[t] }) (vx : Value) (hx : a.eval x = vx) (v' : Value) (w' : World)
    (hr : (Builtin.clear_ #[t] o.type #[vx]).run P w = .ok v' w') (h : wpList P ops Q rest (a.put o.dst v') w') : wpList P ops Q (o :: rest) a w := by
  refine wpList_plain hgd fun K hK => ?_
  unfold Oper.wp execOp
  simp only [ho, resolve, invoke, builtin, Sem.run_bind, Sem.run_pure, Result.andThen_ok, List.map_toArray, List.map_cons, List.map_nil, hx, hr]
  exact hK _ _ h
end
theorem erase_flat {α : Type} {f : α → List Value} {size : Nat} (hf : ∀ r, (f r).length = size) : ∀ (rs : List α) (k : Nat), k < rs.length → (rs.flatMap f).take (k * size) ++ (rs.flatMap f).drop ((k + 1) * size) = (rs.eraseIdx k).flatMap f
  | [], k, h => by simp at h
  | r :: rs, 0, h => by
    rw [List.flatMap_cons, Nat.zero_mul, List.take_zero, List.nil_append, List.eraseIdx_cons_zero, Nat.zero_add, Nat.one_mul, List.drop_left' (hf r)]
  | r :: rs, k + 1, h => by
    have ih := erase_flat hf rs k (by simpa using h)
    rw [List.flatMap_cons, List.eraseIdx_cons_succ, List.flatMap_cons, ← ih]
    rw [show (k + 1) * size = size + k * size by rw [Nat.add_mul]; omega, show (k + 1 + 1) * size = size + (size + k * size) by simp only [Nat.add_mul]; omega]
    rw [List.take_append, List.drop_append, hf, List.take_of_length_le (by rw [hf]; omega), List.drop_eq_nil_of_le (by rw [hf]; omega), List.nil_append, List.append_assoc]
    congr 3
    · omega
    · omega
/-- the first place at which p holds, or -1 -/
def idxOf {α : Type} (p : α → Bool) : List α → Int
  | [] => -1
  | r :: rs => if p r then 0 else if idxOf p rs < 0 then -1 else idxOf p rs + 1
theorem idxOf_lo {α : Type} (p : α → Bool) : ∀ rs : List α, -1 ≤ idxOf p rs ∧ idxOf p rs < rs.length
  | [] => by simp [idxOf]
  | r :: rs => by
    have := idxOf_lo p rs
    unfold idxOf
    rw [List.length_cons]
    split
    · omega
    · split <;> omega
theorem idxOf_hit {α : Type} (p : α → Bool) : ∀ (rs : List α) (k : Nat) (r : α), rs[k]? = some r → p r = true → (∀ j q, j < k → rs[j]? = some q → p q = false) → idxOf p rs = k
  | [], k, r, h, _, _ => by simp at h
  | q :: rs, 0, r, h, hp, _ => by simp at h; subst h; simp [idxOf, hp]
  | q :: rs, k + 1, r, h, hp, hb => by
    have h0 := hb 0 q (by omega) (by simp)
    have ih := idxOf_hit p rs k r (by simpa using h) hp (fun j x hj hx => hb (j + 1) x (by omega) (by simpa using hx))
    unfold idxOf
    rw [h0, ih, if_neg (by simp), if_neg (by omega)]; omega
theorem idxOf_none {α : Type} (p : α → Bool) : ∀ (rs : List α), (∀ r ∈ rs, p r = false) → idxOf p rs = -1
  | [], _ => rfl
  | q :: rs, h => by
    unfold idxOf
    rw [h q (by simp), idxOf_none p rs (fun r hr => h r (by simp [hr]))]; simp
theorem idxOf_some {α : Type} (p : α → Bool) : ∀ (rs : List α), 0 ≤ idxOf p rs → ∃ (k : Nat) (r : α), idxOf p rs = k ∧ rs[k]? = some r ∧ p r = true
  | [], h => by simp [idxOf] at h
  | q :: rs, h => by
    unfold idxOf at h ⊢
    by_cases hq : p q = true
    · exact ⟨0, q, by rw [if_pos hq]; rfl, rfl, hq⟩
    · rw [if_neg hq] at h ⊢
      by_cases h0 : idxOf p rs < 0
      · rw [if_pos h0] at h; omega
      · rw [if_neg h0]
        obtain ⟨k, r, h1, h2, h3⟩ := idxOf_some p rs (by omega)
        exact ⟨k + 1, r, by rw [h1]; rfl, by simpa using h2, h3⟩
theorem idxOf_neg {α : Type} (p : α → Bool) : ∀ (rs : List α), idxOf p rs < 0 → ∀ r ∈ rs, p r = false
  | [], _, r, hr => by simp at hr
  | q :: rs, h, r, hr => by
    unfold idxOf at h
    by_cases hq : p q = true
    · rw [if_pos hq] at h; omega
    · rw [if_neg hq] at h
      by_cases h0 : idxOf p rs < 0
      · rcases List.mem_cons.1 hr with rfl | hr
        · simpa using hq
        · exact idxOf_neg p rs h0 r hr
      · rw [if_neg h0] at h; omega
end Go.Proofs.Ytfpifahkpkjfgaa
