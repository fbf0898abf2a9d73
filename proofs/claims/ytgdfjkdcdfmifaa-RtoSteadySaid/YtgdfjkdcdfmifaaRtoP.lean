/- Plain facts on a Timer that is told one and the same time again and again. No Go in sight. -/
import Derived.Test.YtgdfjkdcdfmifaaRtoC
namespace Go.Proofs.Ytgdfjkdcdfmifaa
set_option linter.unusedVariables false

def stB : Nat → Int
  | 0 => 480
  | n + 1 => stB n - (stB n + 7) / 8
def stC : Nat → Int
  | 0 => 792
  | n + 1 => stC n - stC n / 8
def stS : Nat → Int
  | 0 => 396
  | n + 1 => stS n - stS n / 4
theorem stB_bd : ∀ n, 0 ≤ stB n ∧ stB n ≤ 480
  | 0 => by simp [stB]
  | n + 1 => by have := stB_bd n; simp only [stB]; omega
theorem stC_bd : ∀ n, 0 ≤ stC n ∧ stC n ≤ 792
  | 0 => by simp [stC]
  | n + 1 => by have := stC_bd n; simp only [stC]; omega
theorem stS_bd : ∀ n, 0 ≤ stS n ∧ stS n ≤ 396
  | 0 => by simp [stS]
  | n + 1 => by have := stS_bd n; simp only [stS]; omega
theorem stB_60 : stB 60 = 0 := by decide +kernel
theorem stC_60 : stC 60 ≤ 7 := by decide +kernel
theorem stS_140 : stS 140 ≤ 3 := by decide +kernel
theorem stB_late (n : Nat) : stB (60 + n) = 0 := by
  induction n with
  | zero => exact stB_60
  | succ n ih => show stB (60 + n) - (stB (60 + n) + 7) / 8 = 0; omega
theorem stC_late (n : Nat) : stC (60 + n) ≤ 7 := by
  induction n with
  | zero => exact stC_60
  | succ n ih => have := stC_bd (60 + n); show stC (60 + n) - stC (60 + n) / 8 ≤ 7; omega
/-- behind j answers of r ticks -/
def Near_ (r : Int) (j : Nat) (m s : Int) : Prop := 0 ≤ m ∧ m ≤ 792 ∧ 0 ≤ s ∧ s ≤ 396 ∧ m - 8 * r ≤ stC j ∧ 8 * r - m ≤ stB j ∧ (60 ≤ j → s ≤ stS (j - 60))
theorem near_start (r m s : Int) (hr : 1 ≤ r) (hr' : r ≤ 60) (h1 : 0 ≤ m) (h2 : m ≤ 792) (h3 : 0 ≤ s) (h4 : s ≤ 396) : Near_ r 0 m s :=
  ⟨h1, h2, h3, h4, by simp only [stC]; omega, by simp only [stB]; omega, fun h => absurd h (by omega)⟩
theorem near_first (r : Int) (hr : 1 ≤ r) (hr' : r ≤ 60) : Near_ r 1 (r * 8) (r * 2) := by
  have h1 := stC_bd 1
  have h2 := stB_bd 1
  exact ⟨by omega, by omega, by omega, by omega, by omega, by omega, fun h => absurd h (by omega)⟩
theorem near_step (r m s : Int) (j : Nat) (hr : 1 ≤ r) (hr' : r ≤ 60) (h : Near_ r j m s) : Near_ r (j + 1) (m + (r - m / 8)) (s + (absZ (r - m / 8) - s / 4)) := by
  obtain ⟨h1, h2, h3, h4, h5, h6, h7⟩ := h
  have c := stC_bd j
  have b := stB_bd j
  have ea : 0 ≤ absZ (r - m / 8) ∧ absZ (r - m / 8) ≤ 99 := by unfold absZ; split <;> omega
  refine ⟨by omega, by omega, by omega, by omega, ?_, ?_, ?_⟩
  · show m + (r - m / 8) - 8 * r ≤ stC j - stC j / 8
    omega
  · show 8 * r - (m + (r - m / 8)) ≤ stB j - (stB j + 7) / 8
    omega
  · intro hj
    by_cases hj2 : 60 ≤ j
    · have h8 := h7 hj2
      obtain ⟨n, rfl⟩ : ∃ n, j = 60 + n := ⟨j - 60, by omega⟩
      have hb := stB_late n
      have hc := stC_late n
      have hz : r - m / 8 = 0 := by omega
      rw [show 60 + n + 1 - 60 = n + 1 by omega]
      rw [show 60 + n - 60 = n by omega] at h8
      have hs := stS_bd n
      rw [hz]
      show s + (absZ 0 - s / 4) ≤ stS n - stS n / 4
      have : absZ 0 = 0 := rfl
      omega
    · rw [show j + 1 - 60 = 0 by omega]
      show _ ≤ (396 : Int)
      omega
theorem near_end (r m s : Int) (hr : 1 ≤ r) (hr' : r ≤ 60) (h : Near_ r 200 m s) : r + 1 ≤ valZ true m s 0 ∧ valZ true m s 0 ≤ r + 3 := by
  obtain ⟨h1, h2, h3, h4, h5, h6, h7⟩ := h
  have hb := stB_late 140
  have hc := stC_late 140
  have hs := stS_140
  have h8 : s ≤ stS 140 := h7 (by omega)
  have hm : m / 8 = r := by simp only [show (60 + 140 : Nat) = 200 from rfl] at hb hc; omega
  unfold valZ baseZ
  rw [if_pos rfl, hm]
  simp only [Int.toNat_zero, Int.pow_zero, Int.mul_one]
  unfold clipZ
  split <;> (try split) <;> (try split) <;> omega
/-- a Timer that was told times below 100 -/
def Told (kn : Bool) (m s d : Int) : Prop := d = 0 ∧ 0 ≤ m ∧ m ≤ 792 ∧ 0 ≤ s ∧ s ≤ 396
theorem told_ok {kn m s d} (h : Told kn m s d) : TimerOk m s d := by
  obtain ⟨h0, h1, h2, h3, h4⟩ := h
  unfold TimerOk; omega
theorem told_first (r : Int) (h : 0 ≤ r) (h' : r ≤ 99) : Told true (r * 8) (r * 2) 0 := by unfold Told; omega
theorem told_next (kn : Bool) (m s d r : Int) (ht : Told kn m s d) (h : 0 ≤ r) (h' : r ≤ 99) : Told true (m + (r - m / 8)) (s + (absZ (r - m / 8) - s / 4)) 0 := by
  obtain ⟨h0, h1, h2, h3, h4⟩ := ht
  unfold Told absZ
  split <;> omega
/-- in the second loop -/
def Going (r : Int) (j : Nat) (kn : Bool) (m s d : Int) : Prop := d = 0 ∧ ((j = 0 ∧ Told kn m s d) ∨ (kn = true ∧ Near_ r j m s))
theorem going_ok {r j kn m s d} (h : Going r j kn m s d) : TimerOk m s d := by
  obtain ⟨h0, ⟨_, h⟩ | ⟨_, h⟩⟩ := h
  · exact told_ok h
  · obtain ⟨h1, h2, h3, h4, _⟩ := h
    unfold TimerOk; omega
theorem going_start {r kn m s d} (h : Told kn m s d) : Going r 0 kn m s d := ⟨h.1, .inl ⟨rfl, h⟩⟩
theorem going_next {r : Int} {j : Nat} {m s d : Int} (hr : 1 ≤ r) (hr' : r ≤ 60) (h : Going r j true m s d) : Going r (j + 1) true (m + (r - m / 8)) (s + (absZ (r - m / 8) - s / 4)) 0 := by
  obtain ⟨h0, ⟨hj, _, h1, h2, h3, h4⟩ | ⟨_, h⟩⟩ := h
  · subst hj
    exact ⟨rfl, .inr ⟨rfl, near_step r m s 0 hr hr' (near_start r m s hr hr' h1 h2 h3 h4)⟩⟩
  · exact ⟨rfl, .inr ⟨rfl, near_step r m s j hr hr' h⟩⟩
theorem going_first {r : Int} {j : Nat} {m s d : Int} (hr : 1 ≤ r) (hr' : r ≤ 60) (h : Going r j false m s d) : Going r (j + 1) true (r * 8) (r * 2) 0 := by
  obtain ⟨h0, ⟨hj, _⟩ | ⟨hk, _⟩⟩ := h
  · subst hj
    exact ⟨rfl, .inr ⟨rfl, near_first r hr hr'⟩⟩
  · cases hk
theorem going_end {r kn m s d} (hr : 1 ≤ r) (hr' : r ≤ 60) (h : Going r 200 kn m s d) : r + 1 ≤ valZ kn m s d ∧ valZ kn m s d ≤ r + 3 := by
  obtain ⟨h0, ⟨hj, _⟩ | ⟨hk, h⟩⟩ := h
  · omega
  · subst hk; subst h0; exact near_end r m s hr hr' h
end Go.Proofs.Ytgdfjkdcdfmifaa
