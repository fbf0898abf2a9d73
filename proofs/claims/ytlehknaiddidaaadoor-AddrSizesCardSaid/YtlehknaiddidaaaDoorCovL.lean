/- The plain law of Cover: pieces of a range, each the largest that lies at its place and fits. -/
import Derived.Test.YtlehknaiddidaaaDoorBits
namespace Go.Proofs.YtlehknaiddidaaaDoor
set_option linter.unusedVariables false

/-- n is the largest that fits at a within e -/
structure CvOk (e a n : Nat) : Prop where
  dv : 2 ^ n ∣ a
  fit : a + 2 ^ n ≤ e
  mx : ¬ 2 ^ (n + 1) ∣ a ∨ e < a + 2 ^ (n + 1)
inductive Cv (e f : Nat) : Nat → List (Nat × Nat) → Prop
  | nil : Cv e f f []
  | snoc {a n : Nat} {l : List (Nat × Nat)} : Cv e f a l → CvOk e a n → Cv e f (a + 2 ^ n) (l ++ [(a, n)])
def cvSum (l : List (Nat × Nat)) : Nat := (l.map fun p => 2 ^ p.2).sum
def cvMany (x : Nat) (l : List (Nat × Nat)) : Nat := (l.map fun p => if p.1 ≤ x ∧ x < p.1 + 2 ^ p.2 then 1 else 0).sum
section
variable {e f a : Nat} {l : List (Nat × Nat)}
theorem Cv.le (h : Cv e f a l) : f ≤ a := by
  induction h with
  | nil => exact Nat.le_refl _
  | snoc _ _ ih => exact Nat.le_trans ih (Nat.le_add_right _ _)
theorem Cv.sum (h : Cv e f a l) : f + cvSum l = a := by
  induction h with
  | nil => simp [cvSum]
  | snoc h1 h2 ih => simp only [cvSum, List.map_append, List.map_cons, List.map_nil, List.sum_append, List.sum_cons, List.sum_nil] at ih ⊢; omega
theorem Cv.many (h : Cv e f a l) (x : Nat) : cvMany x l = if f ≤ x ∧ x < a then 1 else 0 := by
  induction h with
  | nil => simp only [cvMany, List.map_nil, List.sum_nil]; split <;> omega
  | @snoc a n l h1 h2 ih =>
    have hp : 0 < 2 ^ n := Nat.two_pow_pos n
    have := h1.le
    simp only [cvMany, List.map_append, List.map_cons, List.map_nil, List.sum_append, List.sum_cons, List.sum_nil] at ih ⊢
    rw [ih]
    split <;> split <;> split <;> omega
theorem Cv.all (h : Cv e f a l) : ∀ p ∈ l, CvOk e p.1 p.2 ∧ f ≤ p.1 := by
  induction h with
  | nil => simp
  | snoc h1 h2 ih =>
    intro p hp
    rcases List.mem_append.1 hp with hp | hp
    · exact ih p hp
    · obtain rfl := List.mem_singleton.1 hp; exact ⟨h2, h1.le⟩
/-- one behind the other, and no two of them halves of one -/
theorem Cv.pair (h : Cv e f a l) : (∀ q, l.getLast? = some q → a = q.1 + 2 ^ q.2 ∧ CvOk e q.1 q.2) ∧ ∀ i q p, l[i]? = some q → l[i+1]? = some p → q.1 < p.1 ∧ ¬ (q.2 = p.2 ∧ q.1 % (2 * 2 ^ p.2) = 0) := by
  induction h with
  | nil => simp
  | @snoc a n l h1 h2 ih =>
    refine ⟨fun q hq => ?_, fun i q p hq hp => ?_⟩
    · simp at hq; subst hq; exact ⟨rfl, h2⟩
    · by_cases hi : i + 1 < l.length
      · rw [List.getElem?_append_left (by omega)] at hq
        rw [List.getElem?_append_left hi] at hp
        exact ih.2 i q p hq hp
      · have hlt : i + 1 < (l ++ [(a, n)]).length := (List.getElem?_eq_some_iff.1 hp).1
        have hil : i + 1 = l.length := by simp at hlt; omega
        rw [List.getElem?_append_left (by omega)] at hq
        rw [List.getElem?_append_right (by omega), hil] at hp
        simp at hp
        subst hp
        have hlast : l.getLast? = some q := by rw [List.getLast?_eq_getElem?, show l.length - 1 = i by omega]; exact hq
        obtain ⟨h3, h4⟩ := ih.1 q hlast
        have hpos : 0 < 2 ^ q.2 := Nat.two_pow_pos _
        refine ⟨by show q.1 < a; omega, ?_⟩
        rintro ⟨e1, e2⟩
        have e1 : q.2 = n := e1
        have e2 : q.1 % (2 * 2 ^ n) = 0 := e2
        rw [e1] at h3 h4
        have h5 := h2.fit
        have hp2 : 2 ^ (n + 1) = 2 * 2 ^ n := by rw [Nat.pow_succ]; omega
        rcases h4.mx with h6 | h6
        · exact h6 (by rw [hp2]; exact Nat.dvd_of_mod_eq_zero e2)
        · rw [hp2] at h6; omega
theorem pow_dvd_add {k n a : Nat} (h : 2 ^ k ∣ a) (hk : k ≤ n) : 2 ^ k ∣ a + 2 ^ n := Nat.dvd_add h (Nat.pow_dvd_pow 2 hk)
theorem pow_le_of_lt {n k x : Nat} (h1 : 2 ^ n ≤ x) (h2 : x < 2 ^ k) : n < k := by
  rcases Nat.lt_or_ge n k with h | h
  · exact h
  · have := Nat.pow_le_pow_right (show 0 < 2 by omega) h; omega
/-- they are few -/
theorem Cv.few (h : Cv e f a l) (he : e ≤ 2 ^ 32) : l.length ≤ 62 ∧ (a = e ∨ (2 ^ l.length ∣ a ∧ (a = 0 → l.length = 0)) ∨ ∃ k, 2 ^ k ∣ a ∧ e < a + 2 ^ k ∧ l.length + k ≤ 62) := by
  induction h with
  | nil => exact ⟨by simp, .inr (.inl ⟨by simp, by simp⟩)⟩
  | @snoc a n l h1 h2 ih =>
    have hn := Nat.two_pow_pos n
    have hf := h2.fit
    have hp2 : 2 ^ (n + 1) = 2 * 2 ^ n := by rw [Nat.pow_succ]; omega
    rw [List.length_append, List.length_singleton]
    have hn32 : n ≤ 32 := by
      rcases Nat.lt_or_ge 32 n with h3 | h3
      · have := Nat.pow_lt_pow_right (show 1 < 2 by omega) h3; omega
      · exact h3
    rcases ih.2 with h3 | ⟨h3, h4⟩ | ⟨k, h3, h4, h5⟩
    · omega
    · -- going up
      by_cases ha : a = 0
      · have h0 := h4 ha
        rw [h0]
        refine ⟨by omega, .inr (.inr ⟨n, ?_, ?_, by omega⟩)⟩
        · rw [ha, Nat.zero_add]; exact Nat.dvd_refl _
        · rcases h2.mx with h6 | h6
          · exact absurd (by rw [ha]; exact Nat.dvd_zero _) h6
          · omega
      · have hl31 : l.length ≤ 31 := by
          have h6 := Nat.le_of_dvd (by omega) h3
          have := pow_le_of_lt h6 (show a < 2 ^ 32 by omega)
          omega
        have hn31 : n ≤ 31 := by
          have h6 := Nat.le_of_dvd (by omega) h2.dv
          have := pow_le_of_lt h6 (show a < 2 ^ 32 by omega)
          omega
        refine ⟨by omega, ?_⟩
        by_cases hd : 2 ^ (n + 1) ∣ a
        · have h6 : e < a + 2 ^ (n + 1) := h2.mx.resolve_left (fun h => h hd)
          by_cases h31 : n = 31
          · -- a would be a multiple of 2^32
            have := Nat.le_of_dvd (by omega) hd
            rw [h31] at this; omega
          · exact .inr (.inr ⟨n, pow_dvd_add h2.dv (Nat.le_refl _), by omega, by omega⟩)
        · refine .inr (.inl ⟨?_, by omega⟩)
          -- so many times two has gone into a that n is at least that
          have hln : l.length ≤ n := by
            rcases Nat.lt_or_ge n l.length with h6 | h6
            · exact absurd (Nat.dvd_trans (Nat.pow_dvd_pow 2 h6) h3) hd
            · exact h6
          refine Nat.dvd_trans (Nat.pow_dvd_pow 2 (show l.length + 1 ≤ n + 1 by omega)) ?_
          obtain ⟨c, hc⟩ := h2.dv
          have hodd : c % 2 = 1 := by
            rcases Nat.mod_two_eq_zero_or_one c with h7 | h7
            · exfalso
              refine hd ⟨c / 2, ?_⟩
              rw [hc, hp2, Nat.mul_comm 2, Nat.mul_assoc]
              congr 1; omega
            · exact h7
          refine ⟨c / 2 + 1, ?_⟩
          rw [hc, hp2, Nat.mul_comm 2, Nat.mul_assoc, ← Nat.mul_succ]
          congr 1; omega
    · -- going down
      have hnk : n < k := pow_le_of_lt (x := e - a) (by omega) (by omega)
      refine ⟨by omega, .inr (.inr ⟨n, pow_dvd_add h2.dv (Nat.le_refl _), ?_, by omega⟩)⟩
      rcases h2.mx with h6 | h6
      · exact absurd (Nat.dvd_trans (Nat.pow_dvd_pow 2 (show n + 1 ≤ k by omega)) h3) h6
      · omega
end
end Go.Proofs.YtlehknaiddidaaaDoor
