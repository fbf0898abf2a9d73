/- One struct of a row of one's own written. -/
import Derived.Test.YtfpifahkpkjfgaaRow
import Derived.Test.YtfpifahkpkjfgaaSlR
namespace Go.Proofs.Ytfpifahkpkjfgaa
open Go.RowKit
set_option linter.unusedVariables false
set_option linter.unusedSectionVars false

/-- cells written one behind the other -/
def setLs : List Value → Nat → List Value → List Value
  | cs, _, [] => cs
  | cs, i, v :: vs => setLs (cs.set i v) (i + 1) vs
theorem setLs_len : ∀ (vs : List Value) (cs : List Value) (i : Nat), (setLs cs i vs).length = cs.length
  | [], cs, i => rfl
  | v :: vs, cs, i => by rw [setLs, setLs_len vs, List.length_set]
theorem setLs_mid : ∀ (vs A B C : List Value), B.length = vs.length → setLs (A ++ (B ++ C)) A.length vs = A ++ (vs ++ C)
  | [], A, B, C, h => by
    have : B = [] := List.eq_nil_of_length_eq_zero h
    subst this; rfl
  | v :: vs, A, [], C, h => by cases h
  | v :: vs, A, b :: B, C, h => by
    have e1 : (A ++ (b :: B ++ C)).set A.length v = (A ++ [v]) ++ (B ++ C) := by simp
    have e2 : A.length + 1 = (A ++ [v]).length := by simp
    rw [setLs, e1, e2, setLs_mid vs (A ++ [v]) B C (by simpa using h)]
    simp
theorem rows_len {α : Type} {f : α → List Value} {size : Nat} : ∀ (rs : List α), (∀ r ∈ rs, (f r).length = size) → (rs.flatMap f).length = rs.length * size
  | [], _ => by simp
  | r :: rs, h => by
    rw [List.flatMap_cons, List.length_append, h r List.mem_cons_self, rows_len rs fun q hq => h q (List.mem_cons_of_mem _ hq), List.length_cons, Nat.succ_mul, Nat.add_comm]
theorem setLs_row {α : Type} {f : α → List Value} {size : Nat} {rs : List α} (hf : ∀ r ∈ rs, (f r).length = size) {i : Nat} (hi : i < rs.length) (r' : α) (hr : (f r').length = size) : setLs (rs.flatMap f) (i * size) (f r') = (rs.set i r').flatMap f := by
  have h3 : rs.take i ++ rs[i] :: rs.drop (i + 1) = rs := by rw [← List.drop_eq_getElem_cons hi, List.take_append_drop]
  have h4 : (rs.take i).flatMap f ++ (f rs[i] ++ (rs.drop (i + 1)).flatMap f) = rs.flatMap f := by
    conv => rhs; rw [← h3]
    rw [List.flatMap_append, List.flatMap_cons]
  have h5 : rs.set i r' = rs.take i ++ r' :: rs.drop (i + 1) := by rw [List.set_eq_take_append_cons_drop, if_pos hi]
  have h6 : ((rs.take i).flatMap f).length = i * size := by
    rw [rows_len _ fun q hq => hf q (List.mem_of_mem_take hq), List.length_take, Nat.min_eq_left (by omega)]
  rw [h5, List.flatMap_append, List.flatMap_cons, ← h4, ← h6]
  exact setLs_mid _ _ _ _ (by rw [hf _ (List.getElem_mem hi), hr])
section
variable {w : World} {base size g off cap n : Nat} {cs : List Value}
theorem WinAt.storeC (h : WinAt w base size g off cap n cs) (hl : cs.length = n * size) (i : Nat) (hi : i < n * size) (v : Value) : WinAt (w.setCell ⟨g, off + i, none⟩ v) base size g off cap n (cs.set i v) := by
  refine ⟨h.ge, by simpa [World.setCell] using h.lt, h.le, h.mx, fun j u hj => ?_, fun j hj => ?_, fun j hj => by rw [World.frozen?_setCell]; exact h.soft j hj⟩
  · by_cases e : i = j
    · subst e
      rw [List.getElem?_set_self (by omega)] at hj
      cases hj
      obtain ⟨u0, hu0⟩ : ∃ u0, cs[i]? = some u0 := ⟨cs[i], List.getElem?_eq_getElem (by omega)⟩
      exact World.cell?_setCell_same _ _ _ (h.here i u0 hu0)
    · rw [List.getElem?_set_ne e] at hj
      rw [World.cell?_setCell_other _ _ _ _ (by intro x; injection x with _ x2 _; omega)]
      exact h.here j u hj
  · rw [World.cell?_setCell_other _ _ _ _ (by intro x; injection x with _ x2 _; omega), World.frozen?_setCell]
    exact h.spare j hj
theorem WinAt.storeL : ∀ (vs : List Value) {w : World} {cs : List Value} (i : Nat), WinAt w base size g off cap n cs → cs.length = n * size → i + vs.length ≤ n * size → WinAt (w.setCells g (off + i) vs) base size g off cap n (setLs cs i vs)
  | [], w, cs, i, h, _, _ => h
  | v :: vs, w, cs, i, h, hl, hi => by
    have h1 := h.storeC hl i (by rw [List.length_cons] at hi; omega) v
    exact WinAt.storeL vs (i + 1) h1 (by rw [List.length_set]; exact hl) (by rw [List.length_cons] at hi; omega)
end
section
variable {E : Nat → Prop} {P : Program} {ops : Array Oper} {rest : List Oper} {op : Oper} {a : Act} {w0 w : World} {Q : Exit → Act → World → Prop} {l : List Res}
theorem wpList_store_row {α : Type} {f : α → List Value} {size : Nat} (hgd : op.guard = none) (T : TypeId) (x y : Operand) (ho : op.op = .store T x y) (k g off m cap i : Nat) (rs : List α) (r : α) (hM : MemX E w0 w l) (hk : l[k]? = some (rowR size f (.slice (some ⟨g, off, none⟩) m cap) rs))
    (hf : ∀ r ∈ rs, (f r).length = size) (hi : i < rs.length) (hr : (f r).length = size) (hx : a.eval x = .pointer (some ⟨g, off + i * size, none⟩)) (hy : a.eval y = .agg (f r).toArray) (hs : (P.info? T).map (·.size) = some (f r).length) (h1 : (f r).all (·.oneCell') = true)
    (h : ∀ W, MemX E w0 W (l.set k (rowR size f (.slice (some ⟨g, off, none⟩) m cap) (rs.set i r))) → wpList P ops Q rest (a.put op.dst undef) W) : wpList P ops Q (op :: rest) a w := by
  have hW : Win w 0 size (.slice (some ⟨g, off, none⟩) m cap) rs.length (rs.flatMap f) := hM.row k hk
  obtain ⟨g', off', cap', e, hA⟩ := hW.pos (by omega)
  have hm : m = rs.length := by injection e
  subst hm
  injection e with e1 _ e3
  injection e1 with e1
  injection e1 with e4 e5 _
  subst e4; subst e5; subst e3
  have hlen := rows_len rs hf
  have hb : i * size + (f r).length ≤ rs.length * size := by
    rw [hr]
    have := Nat.mul_le_mul_right size (show i + 1 ≤ rs.length by omega)
    rw [Nat.succ_mul] at this; exact this
  have ht : w.there g (off + i * size) (f r).toArray.size := fun j hj => by
    rw [List.size_toArray] at hj
    rw [Nat.add_assoc]
    have hj2 : i * size + j < (rs.flatMap f).length := by omega
    exact ⟨by rw [hA.here (i * size + j) _ (List.getElem?_eq_getElem hj2)]; rfl, hA.soft _ (by omega)⟩
  refine wpList_store_mid hgd T x y ho g (off + i * size) (f r).toArray hx hy ht (by rw [List.size_toArray]; exact hs) (all_oneCell_toArray (fun v hv => List.all_eq_true.1 h1 v hv)) (h _ ?_)
  have hg : w.grownBy (w.setCells g (off + i * size) (f r)) (some g) := setCells_grownBy g (f r) (off + i * size) w
  have hA2 := hA.storeL (f r) (i * size) hlen hb
  have hgl : g < (w.setCells g (off + i * size) (f r)).heap.size := hA2.lt
  have := hM.upd (r' := rowR size f (.slice (some ⟨g, off, none⟩) rs.length cap) (rs.set i r)) k hk hg (winR_stab _ _ _ _ _) (by
    show Win _ 0 size _ (rs.set i r).length ((rs.set i r).flatMap f)
    rw [List.length_set]
    refine ⟨?_, .inr ⟨g, off, cap, rfl, ?_⟩⟩
    · rw [rows_len _ (fun q hq => ?_), List.length_set]
      rcases List.mem_or_eq_of_mem_set hq with hq | rfl
      · exact hf q hq
      · exact hr
    · rw [← setLs_row hf hi r hr]; exact hA2) (fun j hj => ⟨.inl hj, by
      have : g = j := Option.some.inj hj
      subst this; exact hgl⟩)
  simpa using this
/-- a row's structs as their cells -/
theorem row_raw {α : Type} (size : Nat) (f : α → List Value) (v : Value) (rs : List α) : rowR size f v rs = rowR size (fun r : List Value => r) v (rs.map f) := by
  unfold rowR
  rw [List.length_map, List.flatMap_map]
theorem rd_row {α : Type} (size : Nat) (f : α → List Value) (v : Value) (rs : List α) (h : rs.length ≠ 0) : rdR size f v rs = rowR size f v rs := by
  unfold rdR rowR winR
  simp only [if_neg h]
end
end Go.Proofs.Ytfpifahkpkjfgaa
