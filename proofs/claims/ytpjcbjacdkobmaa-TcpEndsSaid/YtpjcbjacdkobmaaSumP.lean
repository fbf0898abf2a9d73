/- Plain facts on Sums: what a Sum is modulo 65535, and of texts in pieces. No Go in sight. -/
import Derived.Test.YtpjcbjacdkobmaaSumD
namespace Go.Proofs.Ytpjcbjacdkobmaa
set_option linter.unusedVariables false

theorem foldZ_mod (n : Int) (h : 0 ≤ n) : foldZ n % 65535 = n % 65535 := by unfold foldZ; split <;> omega
theorem foldZ_zero (n : Int) (h : 0 ≤ n) : foldZ n = 0 ↔ n = 0 := by unfold foldZ; split <;> omega
theorem foldZ_same (x y : Int) (hx : 0 ≤ x) (hy : 0 ≤ y) (hm : x % 65535 = y % 65535) (hz : x = 0 ↔ y = 0) : foldZ x = foldZ y := by
  unfold foldZ; split <;> split <;> omega
theorem foldZ_full (x : Int) (hx : 0 < x) (hm : x % 65535 = 0) : foldZ x = 65535 := by unfold foldZ; split <;> omega

/-- the words of a text that begins with the second byte of a word -/
def wsumO : List UInt8 → Int
  | [] => 0
  | y :: b => (y.toNat : Int) + wsum b
theorem wsum_cons (y : UInt8) (b : List UInt8) : wsum (y :: b) = (y.toNat : Int) * 256 + wsumO b := by
  cases b with
  | nil => simp [wsum, wsumO]
  | cons z c => simp only [wsum, wsumO]; omega
theorem wsumO_cons (y : UInt8) (b : List UInt8) : wsumO (y :: b) = (y.toNat : Int) + wsum b := rfl
theorem wsumO_lo (l : List UInt8) : 0 ≤ wsumO l := by
  cases l with
  | nil => simp [wsumO]
  | cons y b => have := wsum_lo b; simp only [wsumO]; omega
theorem wsum_odd (l : List UInt8) : (wsumO l) % 65535 = (256 * wsum l) % 65535 ∧ (wsum l) % 65535 = (256 * wsumO l) % 65535 ∧ (wsumO l = 0 ↔ wsum l = 0) := by
  induction l with
  | nil => simp [wsum, wsumO]
  | cons y b ih =>
    obtain ⟨i1, i2, i3⟩ := ih
    have h1 := wsum_lo b
    have h2 := wsumO_lo b
    rw [wsum_cons, wsumO_cons]
    generalize wsum b = p at *
    generalize wsumO b = q at *
    refine ⟨by omega, by omega, by omega⟩
theorem wsum_app_even : ∀ (a b : List UInt8), a.length % 2 = 0 → wsum (a ++ b) = wsum a + wsum b
  | [], b, _ => by simp [wsum]
  | [x], b, h => by simp at h
  | x :: y :: a, b, h => by
    have := wsum_app_even a b (by simp at h; omega)
    simp only [List.cons_append, wsum, this]; omega
theorem wsum_app_odd : ∀ (a b : List UInt8), a.length % 2 = 1 → wsum (a ++ b) = wsum a + wsumO b
  | [], b, h => by simp at h
  | [x], b, _ => by rw [List.singleton_append, wsum_cons]; simp [wsum]
  | x :: y :: a, b, h => by
    have := wsum_app_odd a b (by simp at h; omega)
    simp only [List.cons_append, wsum, this]; omega

theorem swap_mod (n : Int) (h : 0 ≤ n) (h' : n ≤ 65535) : swapZ n % 65535 = (256 * n) % 65535 ∧ (swapZ n = 0 ↔ n = 0) := by unfold swapZ; omega

theorem joins_odd (a b : List UInt8) (h : a.length % 2 = 1) : sumZ (a ++ b) = foldZ (sumZ a + swapZ (sumZ b)) := by
  have h1 := wsum_lo a
  have h2 := wsum_lo b
  have h3 := wsumO_lo b
  have h4 := wsum_odd b
  have h5 := foldZ_mod _ h1
  have h6 := foldZ_mod _ h2
  have h7 := foldZ_zero _ h1
  have h8 := foldZ_zero _ h2
  have h9 := sumZ_lo a
  have h10 := sumZ_lo b
  have h11 := sumZ_hi b
  have h12 := swap_mod (sumZ b) h10 h11
  have h13 := (swap_bd (sumZ b) h10 h11).1
  unfold sumZ at *
  rw [wsum_app_odd a b h]
  exact foldZ_same _ _ (by omega) (by omega) (by omega) (by omega)
theorem joins_even (a b : List UInt8) (h : a.length % 2 = 0) : sumZ (a ++ b) = foldZ (sumZ a + sumZ b) := by
  have h1 := wsum_lo a
  have h2 := wsum_lo b
  have h5 := foldZ_mod _ h1
  have h6 := foldZ_mod _ h2
  have h7 := foldZ_zero _ h1
  have h8 := foldZ_zero _ h2
  have h9 := sumZ_lo a
  have h10 := sumZ_lo b
  unfold sumZ at *
  rw [wsum_app_even a b h]
  exact foldZ_same _ _ (by omega) (by omega) (by omega) (by omega)
theorem wsum_two' (n : Int) (h : 0 ≤ n) (h' : n ≤ 65535) : wsum (two n) = n := by
  simp only [two, wsum]
  rw [byte_of _ (by omega) (by omega), byte_of _ (by omega) (by omega)]; omega
/-- with its Check behind it a text of even length has the Sum 65535 -/
theorem sum_full (a : List UInt8) (h : a.length % 2 = 0) : sumZ (a ++ two (65535 - sumZ a)) = 65535 := by
  have h1 := wsum_lo a
  have h5 := foldZ_mod _ h1
  have h7 := foldZ_zero _ h1
  have h9 := sumZ_lo a
  have h10 := sumZ_hi a
  have h11 := wsum_two' (65535 - sumZ a) (by omega) (by omega)
  unfold sumZ at *
  rw [wsum_app_even a _ h, h11]
  exact foldZ_full _ (by omega) (by omega)
theorem sum_empty : sumZ [] = 0 := by simp [sumZ, wsum, foldZ]
end Go.Proofs.Ytpjcbjacdkobmaa
