/- A turned bit changes a text's sum, modulo 65535; bytes of a list. No Go in sight. -/
import Derived.Test.YtpjcbjacdkobmaaTurned
import Derived.Test.YtpjcbjacdkobmaaSumP
import Derived.Test.YtpjcbjacdkobmaaBuf
namespace Go.Proofs.Ytpjcbjacdkobmaa
set_option linter.unusedVariables false

theorem tsum_turn : ∀ (l : List UInt8) (i j : Nat), i < l.length → j < 8 → ∃ k : Nat, k < 16 ∧ (wsum (turnL l i j) = wsum l + ((2 ^ k : Nat) : Int) ∨ wsum (turnL l i j) + ((2 ^ k : Nat) : Int) = wsum l)
  | [], i, j, hi, _ => by simp at hi
  | [a], i, j, hi, hj => by
    have h0 : i = 0 := by simp at hi; exact hi
    subst h0
    refine ⟨j + 8, by omega, ?_⟩
    have e : (2 ^ (j + 8) : Nat) = 2 ^ j * 256 := by rw [Nat.pow_add]
    rw [e]
    simp only [turnL, List.modify_zero_cons, wsum]
    have := flipB_pm a j hj
    generalize 2 ^ j = p at *
    omega
  | a :: b :: r, 0, j, hi, hj => by
    refine ⟨j + 8, by omega, ?_⟩
    have e : (2 ^ (j + 8) : Nat) = 2 ^ j * 256 := by rw [Nat.pow_add]
    rw [e]
    simp only [turnL, List.modify_zero_cons, wsum]
    have := flipB_pm a j hj
    generalize 2 ^ j = p at *
    omega
  | a :: b :: r, 1, j, hi, hj => by
    refine ⟨j, by omega, ?_⟩
    simp only [turnL, List.modify_succ_cons, List.modify_zero_cons, wsum]
    have := flipB_pm b j hj
    generalize 2 ^ j = p at *
    omega
  | a :: b :: r, i + 2, j, hi, hj => by
    obtain ⟨k, hk, h⟩ := tsum_turn r i j (by simp at hi; omega) hj
    refine ⟨k, hk, ?_⟩
    simp only [turnL, List.modify_succ_cons, wsum] at *
    omega
theorem tpow_16 : ∀ k : Fin 16, (2 ^ k.val : Nat) % 65535 ≠ 0 := by decide
theorem tsumZ_mod (l : List UInt8) (i j : Nat) (hi : i < l.length) (hj : j < 8) : sumZ (turnL l i j) % 65535 ≠ sumZ l % 65535 := by
  obtain ⟨k, hk, h⟩ := tsum_turn l i j hi hj
  have h1 := wsum_lo l
  have h2 := wsum_lo (turnL l i j)
  have h3 := foldZ_mod _ h1
  have h4 := foldZ_mod _ h2
  have h5 := tpow_16 ⟨k, hk⟩
  simp only at h5
  intro e
  unfold sumZ at e
  rw [h3, h4] at e
  generalize 2 ^ k = p at *
  omega
/-- a turned text behind another one -/
theorem turnL_app (p l : List UInt8) (i j : Nat) : p ++ turnL l i j = turnL (p ++ l) (p.length + i) j := by
  unfold turnL
  apply List.ext_getElem?
  intro k
  by_cases hk : k < p.length
  · have e : ¬ p.length + i = k := by omega
    rw [List.getElem?_append_left hk, List.getElem?_modify, List.getElem?_append_left hk]
    simp [e]
  · rw [List.getElem?_append_right (by omega), List.getElem?_modify, List.getElem?_modify, List.getElem?_append_right (by omega)]
    have e : (i = k - p.length) = (p.length + i = k) := propext (by omega)
    simp only [e]
theorem turnL_app_left (p l : List UInt8) (i j : Nat) (hi : i < p.length) : turnL p i j ++ l = turnL (p ++ l) i j := by
  unfold turnL
  apply List.ext_getElem?
  intro k
  by_cases hk : k < p.length
  · rw [List.getElem?_append_left (by simpa using hk), List.getElem?_modify, List.getElem?_modify, List.getElem?_append_left hk]
  · have e : ¬ i = k := by omega
    rw [List.getElem?_append_right (by simp; omega), List.getElem?_modify, List.getElem?_append_right (by omega)]
    simp [e]
theorem lb_turn_same (l : List UInt8) (i j : Nat) (hi : i < l.length) (hj : j < 8) : lb (turnL l i j) i ≠ lb l i := by
  unfold lb turnL
  rw [List.getElem?_modify_eq, List.getElem?_eq_getElem hi]
  show ((flipB l[i] j).toNat : Int) ≠ (l[i].toNat : Int)
  have := flipB_pm l[i] j hj
  have hp := Nat.two_pow_pos j
  omega
theorem lb_turn_other (l : List UInt8) (i j k : Nat) (hk : k ≠ i) : lb (turnL l i j) k = lb l k := by
  unfold lb turnL; rw [List.getElem?_modify]; simp [Ne.symm hk]
theorem lb_byteL (l : List Int) (M : List UInt8) (k : Nat) (hk : k < l.length) : lb (byteL l ++ M) k = (l[k]?.getD 0) % 256 := by
  unfold lb
  rw [List.getElem?_append_left (by rw [byteL_len]; exact hk)]
  unfold byteL
  rw [List.getElem?_map, List.getElem?_eq_getElem hk]
  simp only [Option.map_some, Option.getD_some]
  rw [UInt8.toNat_ofNat']
  omega
theorem lb_app (L M : List UInt8) (k : Nat) (hk : k < L.length) : lb (L ++ M) k = lb L k := by
  unfold lb; rw [List.getElem?_append_left hk]
/-- a word changes if one of its bytes does -/
theorem w16_turn (l : List UInt8) (i j k : Nat) (hi : i < l.length) (hj : j < 8) (hk : i = k ∨ i = k + 1) : w16 (lb (turnL l i j)) k ≠ w16 (lb l) k := by
  have h1 := lb_turn_same l i j hi hj
  have b0 := lb_ok l k; have b1 := lb_ok l (k + 1); have b2 := lb_ok (turnL l i j) k; have b3 := lb_ok (turnL l i j) (k + 1)
  unfold w16
  rcases hk with rfl | rfl
  · have h2 := lb_turn_other l i j (i + 1) (by omega); omega
  · have h2 := lb_turn_other l (k + 1) j k (by omega); omega
theorem w16_still (l : List UInt8) (i j k : Nat) (hk : i ≠ k ∧ i ≠ k + 1) : w16 (lb (turnL l i j)) k = w16 (lb l) k := by
  unfold w16
  rw [lb_turn_other l i j k (fun e => hk.1 e.symm), lb_turn_other l i j (k + 1) (fun e => hk.2 e.symm)]
/-- what is blanked and what is turned -/
theorem set_turn_other (l : List UInt8) (i j k : Nat) (u : UInt8) (h : k ≠ i) : (turnL l i j).set k u = turnL (l.set k u) i j := by
  unfold turnL
  apply List.ext_getElem?
  intro m
  rw [List.getElem?_set, List.getElem?_modify, List.getElem?_modify, List.getElem?_set, List.length_modify]
  by_cases e : k = m
  · subst e; simp [Ne.symm h]
  · simp [e]
theorem set_turn_same (l : List UInt8) (i j : Nat) (u : UInt8) : (turnL l i j).set i u = l.set i u := by
  unfold turnL
  apply List.ext_getElem?
  intro m
  rw [List.getElem?_set, List.getElem?_modify, List.getElem?_set, List.length_modify]
  by_cases e : i = m
  · subst e; simp
  · simp [e]
theorem byteL_sI (l : List Int) (s : ByteArray) : byteL (l ++ sI s) = byteL l ++ s.data.toList := by rw [byteL_app, sI_byteL]
theorem byteL_set (l : List Int) (k : Nat) (x : Int) : byteL (l.set k x) = (byteL l).set k (UInt8.ofNat (x % 256).toNat) := by
  unfold byteL; rw [List.map_set]
theorem ofNat_lb (L : List UInt8) (k : Nat) (u : UInt8) (h : L[k]? = some u) : UInt8.ofNat (lb L k).toNat = u := by
  unfold lb; rw [h]; simp
end Go.Proofs.Ytpjcbjacdkobmaa
