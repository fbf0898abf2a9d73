/- The plain laws of PortsOthers and PortsFound. -/
import Derived.Test.YtalfdbhpaonfjaaBndK
namespace Go.Proofs.Ytalfdbhpaonfjaa
open Go.RowKit Go.Lib
set_option linter.unusedVariables false
set_option linter.unusedSimpArgs false

theorem Rows_.kept_ {w W : World} {A : Option Addr} {n : Nat} {ks : List Kd} {css : Nat → List Value} (h : Rows_ w A n ks css) (hb : Below w.heap.size w W) : Rows_ W A n ks css :=
  ⟨fun i hi => by
    obtain ⟨b, off, e, hr⟩ := h.at_ i hi
    exact ⟨b, off, e, range_kept hr hb⟩, h.ok⟩
theorem best_other {l : List KBound} {b : KBound} {pr : Int} {lc rm : KEnd} (h : ¬ (b.pr = pr ∧ b.lp = lc.p)) : pBest (l ++ [b]) pr lc rm = pBest l pr lc rm := by
  unfold pBest
  rw [List.filter_append, List.map_append]
  have hs : pSel pr lc rm b = false := by
    unfold pSel
    by_cases h1 : b.pr = pr
    · have h2 : ¬ b.lp = lc.p := fun e => h ⟨h1, e⟩
      simp [h2]
    · simp [h1]
  simp [hs]
theorem find_other {l : List KBound} {b : KBound} {pr : Int} {lc rm : KEnd} {n : Nat} (h : ¬ (b.pr = pr ∧ b.lp = lc.p)) : pFind (pBind l b) pr lc rm n = pFind l pr lc rm n := by
  unfold pBind
  split
  · unfold pFind
    rw [best_other (lc := lc) (rm := rm) h, best_other (lc := lc) (rm := ⟨0, 0⟩) h, best_other (lc := ⟨0, lc.p⟩) (rm := ⟨0, 0⟩) h]
  · rfl
theorem binv_bind' {l : List KBound} (h : BInv l) (b : KBound) : (pBind l b).length ≤ 32 := by
  have := h.len
  unfold pBind
  split
  · rename_i h1
    rw [List.length_append]
    have := h1.2.2
    simp; omega
  · exact this
def pMay (lc rm : KEnd) (b : KBound) : Bool := (decide (b.la = 0) || decide (b.la = lc.a)) && (decide (b.rp = 0) || decide (cR b = rm))
def pFit (pr : Int) (lc rm : KEnd) (o : Int) (b : KBound) : Bool := decide (b.pr = pr) && (decide (b.lp = lc.p) && (pMay lc rm b && decide (b.ow = o)))
theorem best_mem {l : List KBound} {pr : Int} {lc rm : KEnd} {o : Int} (h : o ∈ pBest l pr lc rm) : ∃ b ∈ l, pSel pr lc rm b = true ∧ b.ow = o := by
  unfold pBest at h
  obtain ⟨b, hb, e⟩ := List.mem_map.1 h
  obtain ⟨h1, h2⟩ := List.mem_filter.1 hb
  exact ⟨b, h1, h2, e⟩
theorem sel_is {pr : Int} {lc rm : KEnd} {b : KBound} (h : pSel pr lc rm b = true) : b.pr = pr ∧ b.la = lc.a ∧ b.lp = lc.p ∧ b.ra = rm.a ∧ b.rp = rm.p := by
  unfold pSel at h
  simp only [Bool.and_eq_true, decide_eq_true_eq] at h
  exact ⟨h.1, h.2.1.1, h.2.1.2, h.2.2.1, h.2.2.2⟩
theorem no_clash {l : List KBound} (hI : BInv l) {a b : KBound} (ha : a ∈ l) (hb : b ∈ l) (h : pClash a b = true) : a = b := by
  obtain ⟨i, hi, rfl⟩ := List.getElem_of_mem ha
  obtain ⟨j, hj, rfl⟩ := List.getElem_of_mem hb
  have hp := List.pairwise_iff_getElem.1 hI.ap
  rcases Nat.lt_trichotomy i j with h1 | h1 | h1
  · rw [hp i j hi hj h1] at h; cases h
  · subst h1; rfl
  · rw [pClash_symm, hp j i hj hi h1] at h; cases h
theorem found_law {l : List KBound} (hI : BInv l) (pr : Int) (lc rm : KEnd) (n : Nat) :
    ((pFind l pr lc rm n).2 = false → (pFind l pr lc rm n).1 = 0) ∧ ((pFind l pr lc rm n).2 = true → ∃ b ∈ l, pFit pr lc rm (pFind l pr lc rm n).1 b = true) ∧
    ∀ b ∈ l, b.pr = pr → cL b = lc → cR b = rm → b.rp ≠ 0 → b.ow = (pFind l pr lc rm n).1 := by
  have hfit : ∀ (lc' rm' : KEnd) (o : Int), lc'.p = lc.p → (lc'.a = 0 ∨ lc'.a = lc.a) → (rm'.p = 0 ∨ rm' = rm) → o ∈ pBest l pr lc' rm' → ∃ b ∈ l, pFit pr lc rm o b = true := fun lc' rm' o h1 h2 h3 ho => by
    obtain ⟨b, hb, hs, e⟩ := best_mem ho
    obtain ⟨s1, s2, s3, s4, s5⟩ := sel_is hs
    refine ⟨b, hb, ?_⟩
    unfold pFit pMay
    simp only [Bool.and_eq_true, Bool.or_eq_true, decide_eq_true_eq]
    refine ⟨s1, s3.trans h1, ⟨?_, ?_⟩, e⟩
    · rw [s2]; exact h2
    · rcases h3 with h3 | h3
      · left; rw [s5, h3]
      · right; rw [← h3]; exact pEnd_ext s4 s5
  by_cases b1 : pBest l pr lc rm = []
  · have hno : ∀ b ∈ l, b.pr = pr → cL b = lc → cR b = rm → b.rp ≠ 0 → False := fun b hb e1 e2 e3 _ => by
      have hs : pSel pr lc rm b = true := by
        unfold pSel
        simp only [Bool.and_eq_true, decide_eq_true_eq]
        exact ⟨e1, ⟨congrArg KEnd.a e2, congrArg KEnd.p e2⟩, ⟨congrArg KEnd.a e3, congrArg KEnd.p e3⟩⟩
      have : b.ow ∈ pBest l pr lc rm := List.mem_map.2 ⟨b, List.mem_filter.2 ⟨hb, hs⟩, rfl⟩
      rw [b1] at this
      cases this
    refine ⟨?_, ?_, fun b hb e1 e2 e3 e4 => (hno b hb e1 e2 e3 e4).elim⟩
    · unfold pFind
      rw [if_neg (by simp [b1])]
      split
      · intro h; cases h
      · split
        · intro h; cases h
        · intro _; rfl
    · unfold pFind
      rw [if_neg (by simp [b1])]
      split
      · rename_i h2
        intro _
        exact hfit lc ⟨0, 0⟩ _ rfl (.inr rfl) (.inl rfl) (pAt_mem h2 n)
      · split
        · rename_i h3
          intro _
          exact hfit ⟨0, lc.p⟩ ⟨0, 0⟩ _ rfl (.inl rfl) (.inl rfl) (pAt_mem h3 n)
        · intro h; cases h
  · have e : pFind l pr lc rm n = (pAt (pBest l pr lc rm) n, true) := by unfold pFind; rw [if_pos b1]
    have hm := pAt_mem b1 n
    rw [e]
    refine ⟨fun h => (by cases h), fun _ => hfit lc rm _ rfl (.inr rfl) (.inr rfl) hm, fun b hb e1 e2 e3 e4 => ?_⟩
    obtain ⟨b', hb', hs, e5⟩ := best_mem hm
    obtain ⟨s1, s2, s3, s4, s5⟩ := sel_is hs
    have hc : pClash b b' = true := by
      have g1 : b.la = lc.a := congrArg KEnd.a e2
      have g2 : b.lp = lc.p := congrArg KEnd.p e2
      have g3 : b.ra = rm.a := congrArg KEnd.a e3
      have g4 : b.rp = rm.p := congrArg KEnd.p e3
      unfold pClash pSame pShare
      simp only [Bool.and_eq_true, decide_eq_true_eq, Bool.not_eq_true', Bool.and_eq_false_iff, decide_eq_false_iff_not]
      exact ⟨⟨by rw [e1, s1], by rw [g2, s3], by rw [g3, s4], by rw [g4, s5], .inl (by rw [g1, s2])⟩, .inr (.inr (.inr e4))⟩
    rw [no_clash hI hb hb' hc]
    exact e5
end Go.Proofs.Ytalfdbhpaonfjaa
