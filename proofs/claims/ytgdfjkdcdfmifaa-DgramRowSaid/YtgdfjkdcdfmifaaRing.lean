/- Rows of equal width one behind the other, and a queue in a ring. Plain lists, no Go in sight. -/
import Derived.Test.YtgdfjkdcdfmifaaBase
namespace Go.Proofs.Ytgdfjkdcdfmifaa
set_option linter.unusedVariables false

def setL {β : Type} : List β → Nat → List β → List β
  | l, _, [] => l
  | l, o, v :: vs => setL (l.set o v) (o + 1) vs
theorem setL_mid {β : Type} : ∀ (vs B A C : List β), vs.length = B.length → setL (A ++ (B ++ C)) A.length vs = A ++ (vs ++ C)
  | [], [], A, C, _ => rfl
  | v :: vs, b :: B, A, C, h => by
    have h2 := setL_mid vs B (A ++ [v]) C (by simpa using h)
    simp only [setL]
    rw [List.set_append_right _ _ (Nat.le_refl _), Nat.sub_self]
    simpa using h2
  | [], _ :: _, _, _, h => by simp at h
  | _ :: _, [], _, _, h => by simp at h
section
variable {α β : Type} (f : α → List β) (wd : Nat) (hw : ∀ a, (f a).length = wd)
include hw
theorem rows_len (Rs : List α) : (Rs.flatMap f).length = Rs.length * wd := by
  induction Rs with
  | nil => simp
  | cons a r ih => rw [List.flatMap_cons, List.length_append, hw, ih, List.length_cons, Nat.succ_mul]; omega
theorem rows_split (Rs : List α) (tl : List β) (i : Nat) (h : i < Rs.length) :
    Rs.flatMap f ++ tl = (Rs.take i).flatMap f ++ (f Rs[i] ++ ((Rs.drop (i + 1)).flatMap f ++ tl)) ∧ ((Rs.take i).flatMap f).length = i * wd := by
  refine ⟨?_, by rw [rows_len f wd hw, List.length_take]; congr 1; omega⟩
  have e : Rs = Rs.take i ++ (Rs[i] :: Rs.drop (i + 1)) := by rw [← List.drop_eq_getElem_cons h, List.take_append_drop]
  conv => lhs; rw [e]
  rw [List.flatMap_append, List.flatMap_cons]
  simp only [List.append_assoc]
theorem rows_get (Rs : List α) (tl : List β) (i c : Nat) (h : i < Rs.length) (hc : c < wd) : (Rs.flatMap f ++ tl)[i * wd + c]? = (f Rs[i])[c]? := by
  obtain ⟨e, l⟩ := rows_split f wd hw Rs tl i h
  rw [e, List.getElem?_append_right (by rw [l]; omega), l, Nat.add_sub_cancel_left, List.getElem?_append_left (by rw [hw]; exact hc)]
theorem rows_tail (Rs : List α) (tl : List β) (c : Nat) : (Rs.flatMap f ++ tl)[Rs.length * wd + c]? = tl[c]? := by
  rw [List.getElem?_append_right (by rw [rows_len f wd hw]; omega), rows_len f wd hw, Nat.add_sub_cancel_left]
theorem rows_set (Rs : List α) (tl : List β) (i : Nat) (g : α) (h : i < Rs.length) : setL (Rs.flatMap f ++ tl) (i * wd) (f g) = (Rs.set i g).flatMap f ++ tl := by
  obtain ⟨e, l⟩ := rows_split f wd hw Rs tl i h
  obtain ⟨e2, l2⟩ := rows_split f wd hw (Rs.set i g) tl i (by simpa using h)
  rw [e, ← l, setL_mid (f g) (f Rs[i]) _ _ (by rw [hw, hw]), e2]
  simp [List.take_set_of_le, List.drop_set_of_lt]
end

/-- the ring Rs, read from f on, holds row -/
def RingIs {α : Type} (Rs : List α) (f : Nat) (row : List α) : Prop := f < Rs.length ∧ row.length ≤ Rs.length ∧ ∀ j, j < row.length → Rs[(f + j) % Rs.length]? = row[j]?
theorem ring_put {α : Type} {Rs : List α} {f : Nat} {row : List α} (h : RingIs Rs f row) (hn : row.length < Rs.length) (g : α) : RingIs (Rs.set ((f + row.length) % Rs.length) g) f (row ++ [g]) := by
  obtain ⟨h1, h2, h3⟩ := h
  refine ⟨by simpa using h1, by simp; omega, fun j hj => ?_⟩
  rw [List.length_set]
  simp at hj
  by_cases hjn : j = row.length
  · subst hjn
    have : (f + row.length) % Rs.length < Rs.length := Nat.mod_lt _ (by omega)
    rw [List.getElem?_set_self this, List.getElem?_append_right (Nat.le_refl _)]
    simp
  · have hne : (f + row.length) % Rs.length ≠ (f + j) % Rs.length := by
      intro e
      have e1 := Nat.div_add_mod (f + row.length) Rs.length
      have e2 := Nat.div_add_mod (f + j) Rs.length
      rw [e] at e1
      have q : (f + row.length) / Rs.length = (f + j) / Rs.length ∨ (f + row.length) / Rs.length ≥ (f + j) / Rs.length + 1 := by
        have := Nat.div_le_div_right (c := Rs.length) (show f + j ≤ f + row.length by omega)
        omega
      rcases q with q | q
      · rw [q] at e1; omega
      · have := Nat.mul_le_mul_left Rs.length q
        rw [Nat.mul_add, Nat.mul_one] at this
        omega
    rw [List.getElem?_set_ne hne, h3 j (by omega), List.getElem?_append_left (by omega)]
theorem ring_take {α : Type} {Rs : List α} {f : Nat} {x : α} {row : List α} (h : RingIs Rs f (x :: row)) (g : α) : RingIs (Rs.set f g) ((f + 1) % Rs.length) row := by
  obtain ⟨h1, h2, h3⟩ := h
  simp at h2
  refine ⟨by rw [List.length_set]; exact Nat.mod_lt _ (by omega), by rw [List.length_set]; omega, fun j hj => ?_⟩
  have h4 := h3 (j + 1) (by simp; omega)
  rw [List.length_set, Nat.add_mod, Nat.mod_mod, ← Nat.add_mod, show f + 1 + j = f + (j + 1) by omega]
  have hne : f ≠ (f + (j + 1)) % Rs.length := by
    intro e
    by_cases hlt : f + (j + 1) < Rs.length
    · rw [Nat.mod_eq_of_lt hlt] at e; omega
    · rw [Nat.mod_eq_sub_mod (by omega), Nat.mod_eq_of_lt (by omega)] at e; omega
  rw [List.getElem?_set_ne hne, h4]
  simp
theorem ring_head {α : Type} {Rs : List α} {f : Nat} {x : α} {row : List α} (h : RingIs Rs f (x :: row)) : Rs[f]? = some x := by
  have := h.2.2 0 (by simp)
  rw [Nat.add_zero, Nat.mod_eq_of_lt h.1] at this
  simpa using this
end Go.Proofs.Ytgdfjkdcdfmifaa
