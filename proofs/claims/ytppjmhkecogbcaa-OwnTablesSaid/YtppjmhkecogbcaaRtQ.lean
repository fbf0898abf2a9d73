/- route: addresses as paths of bits; the longest way (plain). -/
import Derived.Test.YtppjmhkecogbcaaRtP
import Derived.Test.YtppjmhkecogbcaaAddrC
namespace Go.Proofs.Ytppjmhkecogbcaa
open Go.RowKit
set_option linter.unusedVariables false
set_option linter.unusedSimpArgs false

def pb (a j : Nat) : Bool := a.testBit (31 - j)
def path (a k : Nat) : List Bool := (List.range k).map (pb a)
def numF : Nat → List Bool → Nat
  | _, [] => 0
  | k, b :: p => (if b then 2 ^ (31 - k) else 0) + numF (k + 1) p
def num (p : List Bool) : Nat := numF 0 p
theorem path_len (a k : Nat) : (path a k).length = k := by simp [path]
theorem path_zero (a : Nat) : path a 0 = [] := rfl
theorem path_succ (a k : Nat) : path a (k + 1) = path a k ++ [pb a k] := by simp [path, List.range_succ]
theorem path_take {a k n : Nat} (h : k ≤ n) : (path a n).take k = path a k := by
  unfold path
  rw [← List.map_take, List.take_range, Nat.min_eq_left h]
theorem sub_later {t : RT} {a k n : Nat} (h : k ≤ n) (e : t.sub (path a k) = .nil) : t.sub (path a n) = .nil := by
  rw [← List.take_append_drop k (path a n), RT.sub_app, path_take h, e, RT.sub_nil]
theorem numF_snoc : ∀ (p : List Bool) (k : Nat) (b : Bool), numF k (p ++ [b]) = numF k p + if b then 2 ^ (31 - (k + p.length)) else 0
  | [], k, b => by simp [numF]
  | c :: p, k, b => by
    show (if c then 2 ^ (31 - k) else 0) + numF (k + 1) (p ++ [b]) = (if c then 2 ^ (31 - k) else 0) + numF (k + 1) p + _
    rw [numF_snoc p (k + 1) b, List.length_cons, show k + 1 + p.length = k + (p.length + 1) by omega]
    omega
theorem num_snoc (p : List Bool) (b : Bool) : num (p ++ [b]) = num p + if b then 2 ^ (31 - p.length) else 0 := by
  unfold num
  rw [numF_snoc, Nat.zero_add]
theorem snoc_ind {P : List Bool → Prop} (h0 : P []) (h1 : ∀ p b, P p → P (p ++ [b])) (p : List Bool) : P p := by
  have : ∀ n (p : List Bool), p.length = n → P p := by
    intro n
    induction n with
    | zero => intro p hp; rw [List.length_eq_zero_iff.1 hp]; exact h0
    | succ n ih =>
      intro p hp
      have hne : p ≠ [] := fun e => by rw [e] at hp; cases hp
      rw [← List.dropLast_concat_getLast hne]
      exact h1 _ _ (ih _ (by rw [List.length_dropLast]; omega))
  exact this _ p rfl
theorem two_step {k : Nat} (h : k < 32) : 2 ^ (32 - k) = 2 * 2 ^ (31 - k) := by
  rw [show 32 - k = 31 - k + 1 by omega, Nat.pow_succ]; omega
theorem div_step (a k : Nat) (h : k < 32) : a / 2 ^ (31 - k) = 2 * (a / 2 ^ (32 - k)) + if pb a k then 1 else 0 := by
  have e : a / 2 ^ (32 - k) = a / 2 ^ (31 - k) / 2 := by rw [two_step h, Nat.mul_comm, Nat.div_div_eq_div_mul]
  rw [e]
  unfold pb
  rw [Nat.testBit_eq_decide_div_mod_eq]
  by_cases hb : a / 2 ^ (31 - k) % 2 = 1
  · simp only [hb, decide_true, if_true]; omega
  · simp only [hb, decide_false]; simp; omega
theorem num_path {a : Nat} (ha : a < 2 ^ 32) : ∀ k, k ≤ 32 → num (path a k) = a / 2 ^ (32 - k) * 2 ^ (32 - k)
  | 0, _ => by
    show 0 = a / 2 ^ 32 * 2 ^ 32
    rw [Nat.div_eq_of_lt ha, Nat.zero_mul]
  | k + 1, h => by
    rw [path_succ, num_snoc, path_len, num_path ha k (by omega)]
    have h1 := div_step a k (by omega)
    have h2 := two_step (k := k) (by omega)
    rw [show 32 - (k + 1) = 31 - k by omega, h1]
    rw [h2] at *
    rw [Nat.add_mul]
    generalize a / (2 * 2 ^ (31 - k)) = q at *
    generalize 2 ^ (31 - k) = z at *
    have e1 : 2 * q * z = q * (2 * z) := by rw [Nat.mul_comm 2 q, Nat.mul_assoc]
    rw [e1]
    cases pb a k <;> simp
theorem num_path' {a k : Nat} (ha : a < 2 ^ 32) (h : k ≤ 32) : num (path a k) = a - a % 2 ^ (32 - k) := by
  rw [num_path ha k h]
  have := Nat.div_add_mod a (2 ^ (32 - k))
  rw [Nat.mul_comm] at this
  generalize a / 2 ^ (32 - k) * 2 ^ (32 - k) = x at *
  generalize a % 2 ^ (32 - k) = y at *
  omega
/-- the path leans on the bits from the top alone -/
theorem path_div {a b k : Nat} (h : k ≤ 32) (e : a / 2 ^ (32 - k) = b / 2 ^ (32 - k)) : path a k = path b k := by
  unfold path
  refine List.map_congr_left fun j hj => ?_
  have hj' : j < k := List.mem_range.1 hj
  unfold pb
  have h1 : ∀ c : Nat, c.testBit (31 - j) = (c / 2 ^ (32 - k)).testBit (k - 1 - j) := fun c => by
    rw [← Nat.shiftRight_eq_div_pow, Nat.testBit_shiftRight, show 32 - k + (k - 1 - j) = 31 - j by omega]
  rw [h1 a, h1 b, e]
theorem num_facts : ∀ p : List Bool, p.length ≤ 32 → num p % 2 ^ (32 - p.length) = 0 ∧ num p + 2 ^ (32 - p.length) ≤ 2 ^ 32 :=
  snoc_ind (fun _ => by simp [num, numF]) fun p b ih h => by
    rw [List.length_append] at h
    simp only [List.length_singleton] at h
    obtain ⟨h1, h2⟩ := ih (by omega)
    have h3 := two_step (k := p.length) (by omega)
    rw [num_snoc, List.length_append]
    simp only [List.length_singleton]
    rw [show 32 - (p.length + 1) = 31 - p.length by omega]
    rw [h3] at h1 h2
    generalize 2 ^ (31 - p.length) = z at *
    have h4 : num p % z = 0 := Nat.mod_eq_zero_of_dvd (Nat.dvd_trans ⟨2, by omega⟩ (Nat.dvd_of_mod_eq_zero h1))
    constructor
    · cases b
      · simpa using h4
      · simp only [if_true]
        rw [Nat.add_mod_right]; exact h4
    · cases b <;> simp <;> omega
theorem num_lt {p : List Bool} (h : p.length ≤ 32) : num p < 2 ^ 32 := by
  have := (num_facts p h).2
  have h0 : 0 < 2 ^ (32 - p.length) := Nat.pos_of_neZero _
  omega
theorem path_num : ∀ p : List Bool, p.length ≤ 32 → path (num p) p.length = p :=
  snoc_ind (fun _ => rfl) fun p b ih h => by
    rw [List.length_append] at h
    simp only [List.length_singleton] at h
    have h1 := ih (by omega)
    obtain ⟨h2, h3⟩ := num_facts p (by omega)
    have h4 := two_step (k := p.length) (by omega)
    rw [List.length_append]
    simp only [List.length_singleton]
    rw [path_succ]
    have e1 : num (p ++ [b]) / 2 ^ (32 - p.length) = num p / 2 ^ (32 - p.length) := by
      rw [num_snoc]
      have hz : (if b then 2 ^ (31 - p.length) else 0) < 2 ^ (32 - p.length) := by
        have : 0 < 2 ^ (31 - p.length) := Nat.pos_of_neZero _
        rw [h4]; cases b <;> simp <;> omega
      generalize (if b then 2 ^ (31 - p.length) else 0) = y at hz
      obtain ⟨c, hc⟩ := Nat.dvd_of_mod_eq_zero h2
      have hp : 0 < 2 ^ (32 - p.length) := Nat.pos_of_neZero _
      rw [hc, Nat.mul_add_div hp, Nat.div_eq_of_lt hz, Nat.mul_div_cancel_left _ hp, Nat.add_zero]
    rw [path_div (by omega) e1, h1]
    congr 1
    have h5 := div_step (num (p ++ [b])) p.length (by omega)
    have h6 : num (p ++ [b]) / 2 ^ (31 - p.length) = 2 * (num p / 2 ^ (32 - p.length)) + if b then 1 else 0 := by
      rw [num_snoc]
      obtain ⟨c, hc⟩ := Nat.dvd_of_mod_eq_zero h2
      have hp : 0 < 2 ^ (31 - p.length) := Nat.pos_of_neZero _
      have hp2 : 0 < 2 ^ (32 - p.length) := Nat.pos_of_neZero _
      rw [hc, Nat.mul_div_cancel_left _ hp2, h4]
      generalize 2 ^ (31 - p.length) = z at *
      have e2 : 2 * z * c = z * (2 * c) := by rw [Nat.mul_comm 2 z, Nat.mul_assoc]
      rw [e2]
      cases b
      · simp only [Bool.false_eq_true, if_false, Nat.add_zero]
        rw [Nat.mul_div_cancel_left _ hp]
      · simp only [if_true]
        rw [show z * (2 * c) + z = z * (2 * c + 1) by rw [Nat.mul_add, Nat.mul_one], Nat.mul_div_cancel_left _ hp]
    rw [h6, e1] at h5
    cases b <;> cases hb : pb (num (p ++ [_])) p.length <;> rw [hb] at h5 <;> simp at h5 <;> first | rfl | omega
/-- the longest way -/
def bst (G : List Bool → Option Int) (a : Nat) : Nat → Option (Nat × Int)
  | 0 => none
  | k + 1 => match G (path a k) with
    | some v => some (k, v)
    | none => bst G a k
theorem bst_lt {G : List Bool → Option Int} {a : Nat} : ∀ {k j : Nat} {v : Int}, bst G a k = some (j, v) → j < k ∧ G (path a j) = some v
  | k + 1, j, v, h => by
    unfold bst at h
    split at h
    · rename_i u hu
      simp at h
      obtain ⟨rfl, rfl⟩ := h
      exact ⟨by omega, hu⟩
    · have := bst_lt h
      exact ⟨by omega, this.2⟩
theorem bst_max {G : List Bool → Option Int} {a : Nat} : ∀ {k j : Nat} {v : Int}, bst G a k = some (j, v) → ∀ i, j < i → i < k → G (path a i) = none
  | k + 1, j, v, h, i, h1, h2 => by
    unfold bst at h
    split at h
    · rename_i u hu
      simp at h
      omega
    · rename_i hu
      by_cases e : i = k
      · subst e; exact hu
      · exact bst_max h i h1 (by omega)
theorem bst_none {G : List Bool → Option Int} {a : Nat} : ∀ {k : Nat}, bst G a k = none → ∀ i, i < k → G (path a i) = none
  | k + 1, h, i, h2 => by
    unfold bst at h
    split at h
    · cases h
    · rename_i hu
      by_cases e : i = k
      · subst e; exact hu
      · exact bst_none h i (by omega)
theorem bst_step {G : List Bool → Option Int} {a k : Nat} (h : G (path a k) = none) : bst G a (k + 1) = bst G a k := by
  rw [bst, h]
theorem bst_yes {G : List Bool → Option Int} {a k : Nat} {v : Int} (h : G (path a k) = some v) : bst G a (k + 1) = some (k, v) := by
  rw [bst, h]
/-- behind a place that isn't there nothing follows -/
theorem bst_stop {G : List Bool → Option Int} {a k : Nat} : ∀ n, (∀ i, k ≤ i → i < k + n → G (path a i) = none) → bst G a (k + n) = bst G a k
  | 0, _ => rfl
  | n + 1, h => by
    rw [← Nat.add_assoc, bst_step (h (k + n) (by omega) (by omega))]
    exact bst_stop n (fun i h1 h2 => h i h1 (by omega))
theorem bst_congr {G G' : List Bool → Option Int} {a : Nat} (h : ∀ i, i < 33 → G (path a i) = G' (path a i)) : ∀ k, k ≤ 33 → bst G a k = bst G' a k
  | 0, _ => rfl
  | k + 1, hk => by
    unfold bst
    rw [h k (by omega), bst_congr h k (by omega)]
theorem bst_fst {G G' : List Bool → Option Int} {a : Nat} (h : ∀ i, (G (path a i)).isSome = (G' (path a i)).isSome) : ∀ k, (bst G a k).map (·.1) = (bst G' a k).map (·.1)
  | 0 => rfl
  | k + 1 => by
    have h1 := h k
    unfold bst
    cases hg : G (path a k) <;> cases hg' : G' (path a k) <;> rw [hg, hg'] at h1 <;> simp at h1
    · exact bst_fst h k
    · rfl
/-- a prefix that is one -/
def okP (a n : Nat) : Prop := n ≤ 32 ∧ a < 2 ^ 32 ∧ a % 2 ^ (32 - n) = 0
theorem sizeZ_nat {n : Nat} (h : n ≤ 32) : sizeZ (n : Int) = ((2 ^ (32 - n) : Nat) : Int) := by
  unfold sizeZ
  rw [show ((32 : Int) - n).toNat = 32 - n by omega]; simp
theorem chk_nat {a n : Nat} (ha : a < 2 ^ 32) (h : chkZ a n = 0) : okP a n := by
  obtain ⟨h1, h2, h3⟩ := chk_zero h
  have hn : n ≤ 32 := by omega
  rw [sizeZ_nat hn] at h3
  exact ⟨hn, ha, by omega⟩
theorem okP_chk {a n : Nat} (h : okP a n) : chkZ a n = 0 := by
  refine chk_ok (by omega) (by have := h.1; omega) ?_
  rw [sizeZ_nat h.1]
  have := h.2.2
  omega
theorem okP_num {a n : Nat} (h : okP a n) : num (path a n) = a := by
  rw [num_path' h.2.1 h.1, h.2.2]; rfl
theorem num_okP {p : List Bool} (h : p.length ≤ 32) : okP (num p) p.length := ⟨h, num_lt h, (num_facts p h).1⟩
theorem has_path {p n a : Nat} (hp : okP p n) (ha : a < 2 ^ 32) : hasB p n a = true ↔ path a n = path p n := by
  rw [has_yes (okP_chk hp), sizeZ_nat hp.1, beq_iff_eq]
  have h1 := num_path' ha hp.1
  have h2 := okP_num hp
  have h3 : a % 2 ^ (32 - n) ≤ a := Nat.mod_le _ _
  constructor
  · intro h
    have e : num (path a n) = p := by rw [h1]; omega
    have := path_num (path a n) (by rw [path_len]; exact hp.1)
    rw [path_len, e] at this
    exact this.symm
  · intro h
    rw [h, h2] at h1
    omega
end Go.Proofs.Ytppjmhkecogbcaa
