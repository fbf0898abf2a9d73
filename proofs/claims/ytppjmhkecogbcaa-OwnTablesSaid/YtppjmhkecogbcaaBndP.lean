/- ports: the plain model of its table, and what holds of it. -/
import Derived.Test.YtppjmhkecogbcaaSlR
import Derived.Test.YtppjmhkecogbcaaSt
namespace Go.Proofs.Ytppjmhkecogbcaa
open Go.RowKit
set_option linter.unusedVariables false
set_option linter.unusedSimpArgs false

structure BndOk (b : KBound) : Prop where
  pr : -9223372036854775808 ≤ b.pr ∧ b.pr ≤ 9223372036854775807
  la : 0 ≤ b.la ∧ b.la ≤ 4294967295
  lp : -9223372036854775808 ≤ b.lp ∧ b.lp ≤ 9223372036854775807
  ra : 0 ≤ b.ra ∧ b.ra ≤ 4294967295
  rp : -9223372036854775808 ≤ b.rp ∧ b.rp ≤ 9223372036854775807
  ow : -9223372036854775808 ≤ b.ow ∧ b.ow ≤ 9223372036854775807
def pOk (b : KBound) : Bool := decide ((b.pr = 6 ∨ b.pr = 17) ∧ 1 ≤ b.lp ∧ b.lp ≤ 65535 ∧ 0 ≤ b.rp ∧ b.rp ≤ 65535 ∧ (b.rp = 0 → b.ra = 0) ∧ (b.rp ≠ 0 → b.la ≠ 0))
def pCheck (b : KBound) : Int := if pOk b = true then 0 else 1
/-- both for nobody in particular, both shared, at one address -/
def pShare (a b : KBound) : Bool := a.sh && (b.sh && (decide (a.la = b.la) && decide (a.rp = 0)))
def pSame (a b : KBound) : Bool := decide (a.pr = b.pr ∧ a.lp = b.lp ∧ a.ra = b.ra ∧ a.rp = b.rp ∧ (a.la = b.la ∨ a.la = 0 ∨ b.la = 0))
def pClash (a b : KBound) : Bool := pSame a b && !pShare a b
theorem pClash_symm (a b : KBound) : pClash a b = pClash b a := by
  have h : pSame a b = pSame b a := by
    unfold pSame
    refine decide_eq_decide.2 ⟨fun ⟨h1, h2, h3, h4, h5⟩ => ⟨h1.symm, h2.symm, h3.symm, h4.symm, ?_⟩, fun ⟨h1, h2, h3, h4, h5⟩ => ⟨h1.symm, h2.symm, h3.symm, h4.symm, ?_⟩⟩
    all_goals (rcases h5 with h | h | h; exact .inl h.symm; exact .inr (.inr h); exact .inr (.inl h))
  unfold pClash
  rw [h]
  cases hs : pSame b a
  · rfl
  · have h4 : b.rp = a.rp := by unfold pSame at hs; simp at hs; exact hs.2.2.2.1
    unfold pShare
    rw [h4, Bool.and_left_comm, show decide (a.la = b.la) = decide (b.la = a.la) from decide_eq_decide.2 ⟨Eq.symm, Eq.symm⟩]
def pClashes (l : List KBound) (b : KBound) : Bool := l.any fun a => pClash a b
/-- Bind: the answer -/
def pBindE (l : List KBound) (b : KBound) : Int := if pOk b = true then (if pClashes l b = true then 15 else if l.length = 32 then 9 else 0) else 1
def pBind (l : List KBound) (b : KBound) : List KBound := if pOk b = true ∧ pClashes l b = false ∧ l.length ≠ 32 then l ++ [b] else l
def pDrop (l : List KBound) (o : Int) : List KBound := l.filter fun b => !decide (b.ow = o)
/-- what holds of a table -/
structure BInv (l : List KBound) : Prop where
  len : l.length ≤ 32
  ok : ∀ b ∈ l, BndOk b
  ck : ∀ b ∈ l, pOk b = true
  ap : l.Pairwise fun a b => pClash a b = false
theorem binv_nil : BInv [] := ⟨by simp, by simp, by simp, List.Pairwise.nil⟩
theorem binv_bind {l : List KBound} (h : BInv l) (b : KBound) (hb : BndOk b) : BInv (pBind l b) := by
  unfold pBind
  split
  · rename_i h1
    obtain ⟨h1, h2, h3⟩ := h1
    have hl := h.len
    refine ⟨by rw [List.length_append]; simp; omega, ?_, ?_, ?_⟩
    · intro x hx
      rcases List.mem_append.1 hx with hx | hx
      · exact h.ok x hx
      · rw [List.mem_singleton.1 hx]; exact hb
    · intro x hx
      rcases List.mem_append.1 hx with hx | hx
      · exact h.ck x hx
      · rw [List.mem_singleton.1 hx]; exact h1
    · refine List.pairwise_append.2 ⟨h.ap, List.pairwise_singleton _ _, fun x hx y hy => ?_⟩
      rw [List.mem_singleton.1 hy]
      have := (List.any_eq_false.1 h2) x hx
      simpa using this
  · exact h
theorem binv_drop {l : List KBound} (h : BInv l) (o : Int) : BInv (pDrop l o) :=
  ⟨Nat.le_trans (List.length_filter_le _ _) h.len, fun b hb => h.ok b (List.mem_filter.1 hb).1, fun b hb => h.ck b (List.mem_filter.1 hb).1, h.ap.sublist List.filter_sublist⟩
theorem pDrop_len (l : List KBound) (o : Int) : (pDrop l o).length = l.length ↔ pDrop l o = l := by
  constructor
  · intro h
    exact List.filter_eq_self.2 (List.length_filter_eq_length_iff.1 h)
  · intro h; rw [h]
theorem pDrop_none {l : List KBound} {o : Int} (h : ∀ b ∈ l, b.ow ≠ o) : pDrop l o = l := List.filter_eq_self.2 fun b hb => by simpa using h b hb
theorem pDrop_not (l : List KBound) (o : Int) : ∀ b ∈ pDrop l o, b.ow ≠ o := fun b hb => by simpa using (List.mem_filter.1 hb).2
def pSel (pr : Int) (lc rm : KEnd) (b : KBound) : Bool := decide (b.pr = pr) && (decide (b.la = lc.a ∧ b.lp = lc.p) && decide (b.ra = rm.a ∧ b.rp = rm.p))
def pBest (l : List KBound) (pr : Int) (lc rm : KEnd) : List Int := (l.filter (pSel pr lc rm)).map (·.ow)
def pAt (best : List Int) (n : Nat) : Int := (best[n % best.length]?).getD 0
def pFind (l : List KBound) (pr : Int) (lc rm : KEnd) (n : Nat) : Int × Bool :=
  if pBest l pr lc rm ≠ [] then (pAt (pBest l pr lc rm) n, true)
  else if pBest l pr lc ⟨0, 0⟩ ≠ [] then (pAt (pBest l pr lc ⟨0, 0⟩) n, true)
  else if pBest l pr ⟨0, lc.p⟩ ⟨0, 0⟩ ≠ [] then (pAt (pBest l pr ⟨0, lc.p⟩ ⟨0, 0⟩) n, true)
  else (0, false)
theorem pAt_mem {best : List Int} (h : best ≠ []) (n : Nat) : pAt best n ∈ best := by
  have hl : 0 < best.length := List.length_pos_iff.2 h
  unfold pAt
  rw [List.getElem?_eq_getElem (Nat.mod_lt n hl)]
  exact List.getElem_mem _
end Go.Proofs.Ytppjmhkecogbcaa
