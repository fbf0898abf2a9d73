/- frag: put and done (plain). -/
import Derived.Test.YtmcdmgnpbhkdhaaFgP
namespace Go.Proofs.Ytmcdmgnpbhkdhaa
open Go.RowKit
set_option linter.unusedVariables false
set_option linter.unusedSimpArgs false

def bZ (S : ByteArray) (i : Nat) : Int := ((S.data[i]?.getD 0).toNat : Int)
theorem fgbyte_at (s : ByteArray) (k : Nat) (h : k < s.size) : s[k] = s.data[k]?.getD 0 := by
  have : s.data[k]? = some s.data[k] := Array.getElem?_eq_getElem h
  rw [this]; rfl
structure FgOk (f : FW) : Prop where
  en1 : -1 ≤ f.en
  en2 : f.en ≤ 4000
  la1 : 0 ≤ f.la
  la2 : f.la ≤ 4000
  age1 : 0 ≤ f.age
  age2 : f.age ≤ 30
  rng : ∀ k, 0 ≤ f.b k ∧ f.b k ≤ 255
theorem bZ_bd (S : ByteArray) (i : Nat) : 0 ≤ bZ S i ∧ bZ S i ≤ 255 := by
  unfold bZ; have := (S.data[i]?.getD 0).toNat_lt; omega
def enP (f : FW) (p : Pk) (fr : Nat) : Int := if p.mf = true then f.en else (fr + p.b.size : Nat)
def laP (f : FW) (p : Pk) (fr : Nat) : Int := if f.la < (fr + p.b.size : Nat) then (fr + p.b.size : Nat) else f.la
def c1P (f : FW) (p : Pk) (fr : Nat) : Prop := p.mf = true ∨ f.en < 0 ∨ f.en = (fr + p.b.size : Nat)
def c2P (f : FW) (p : Pk) (fr : Nat) : Prop := enP f p fr < 0 ∨ laP f p fr ≤ enP f p fr
/-- nothing that is there says another thing -/
def agree (f : FW) (S : ByteArray) (fr c : Nat) : Prop := ∀ k, fr ≤ k → k < c → f.h k = true → f.b k = bZ S (k - fr)
def midF (f : FW) (S : ByteArray) (fr c : Nat) : FW := { f with b := fun k => if fr ≤ k ∧ k < c then bZ S (k - fr) else f.b k, h := fun k => f.h k || decide (fr ≤ k ∧ k < c) }
def f2P (f : FW) (p : Pk) (fr : Nat) : FW := { f with en := enP f p fr, la := laP f p fr }
def putF (f : FW) (p : Pk) (fr : Nat) : FW :=
  if fr = 0 ∧ 0 < p.b.size ∧ f.kn = false then { midF (f2P f p fr) p.b fr (fr + p.b.size) with fi := p, kn := true } else midF (f2P f p fr) p.b fr (fr + p.b.size)
def okPut (f : FW) (p : Pk) (fr : Nat) : Prop := c1P f p fr ∧ c2P f p fr ∧ agree f p.b fr (fr + p.b.size)
theorem midF_start (f : FW) (S : ByteArray) (fr : Nat) : fgC (midF f S fr fr) = fgC f :=
  fgC_congr _ _ (fun k _ => by show (if fr ≤ k ∧ k < fr then _ else f.b k) = f.b k; rw [if_neg (by omega)])
    (fun k _ => by show (f.h k || decide (fr ≤ k ∧ k < fr)) = f.h k; rw [decide_eq_false (by omega), Bool.or_false]) rfl
theorem midF_step (f : FW) (S : ByteArray) (fr c : Nat) (hc : fr ≤ c) (h4 : c < 4000) :
    ((fgC (midF f S fr c)).set (4000 + c) (.bool true)).set c (.int .u8 (bZ S (c - fr))) = fgC (midF f S fr (c + 1)) := by
  rw [fgC_seth _ _ _ h4, fgC_setb _ _ _ h4]
  refine fgC_congr _ _ (fun k _ => ?_) (fun k _ => ?_) rfl
  · show (if k = c then bZ S (c - fr) else if fr ≤ k ∧ k < c then bZ S (k - fr) else f.b k) = if fr ≤ k ∧ k < c + 1 then bZ S (k - fr) else f.b k
    by_cases e : k = c
    · subst e; rw [if_pos rfl, if_pos (by omega)]
    · rw [if_neg e]
      by_cases h : fr ≤ k ∧ k < c
      · rw [if_pos h, if_pos (by omega)]
      · rw [if_neg h, if_neg (by omega)]
  · show (if k = c then true else (f.h k || decide (fr ≤ k ∧ k < c))) = (f.h k || decide (fr ≤ k ∧ k < c + 1))
    by_cases e : k = c
    · subst e; rw [if_pos rfl, decide_eq_true (p := fr ≤ k ∧ k < k + 1) (by omega), Bool.or_true]
    · rw [if_neg e]
      congr 1
      exact decide_eq_decide.2 (by omega)
theorem agree_step {f : FW} {S : ByteArray} {fr c : Nat} (h : agree f S fr c) (h1 : f.h c = true → f.b c = bZ S (c - fr)) : agree f S fr (c + 1) := fun k a b hk => by
  by_cases e : k = c
  · subst e; exact h1 hk
  · exact h k a (by omega) hk
theorem agree_not {f : FW} {S : ByteArray} {fr c t : Nat} (hc : fr ≤ c) (ht : c < t) (h1 : f.h c = true) (h2 : f.b c ≠ bZ S (c - fr)) : ¬ agree f S fr t := fun h => h2 (h c hc ht h1)
theorem okPut_size {f : FW} (ok : FgOk f) {p : Pk} {fr : Nat} (ht : fr + p.b.size ≤ 4000) : FgOk (putF f p fr) := by
  have e1 := ok.en1
  have e2 := ok.en2
  have l1 := ok.la1
  have l2 := ok.la2
  have h1 : -1 ≤ enP f p fr ∧ enP f p fr ≤ 4000 := by unfold enP; split <;> omega
  have h2 : 0 ≤ laP f p fr ∧ laP f p fr ≤ 4000 := by unfold laP; split <;> omega
  have h3 : ∀ k, 0 ≤ (midF (f2P f p fr) p.b fr (fr + p.b.size)).b k ∧ (midF (f2P f p fr) p.b fr (fr + p.b.size)).b k ≤ 255 := fun k => by
    show 0 ≤ (if fr ≤ k ∧ k < fr + p.b.size then bZ p.b (k - fr) else f.b k) ∧ (if fr ≤ k ∧ k < fr + p.b.size then bZ p.b (k - fr) else f.b k) ≤ 255
    split
    · exact bZ_bd _ _
    · exact ok.rng k
  unfold putF
  split <;> exact ⟨h1.1, h1.2, h2.1, h2.2, ok.age1, ok.age2, h3⟩
/-- done -/
def doneB (f : FW) : Bool := decide (0 ≤ f.en) && ((List.range f.en.toNat).all f.h && f.kn)
theorem doneB_neg {f : FW} (h : f.en < 0) : doneB f = false := by unfold doneB; rw [decide_eq_false (by omega)]; rfl
theorem doneB_not {f : FW} {k : Nat} (h1 : (k : Int) < f.en) (h : f.h k = false) : doneB f = false := by
  unfold doneB
  have : (List.range f.en.toNat).all f.h = false := by
    rw [List.all_eq_false]
    exact ⟨k, List.mem_range.2 (by omega), by simp [h]⟩
  rw [this]; simp
theorem doneB_all {f : FW} (h0 : 0 ≤ f.en) (h : ∀ k : Nat, (k : Int) < f.en → f.h k = true) : doneB f = f.kn := by
  unfold doneB
  have : (List.range f.en.toNat).all f.h = true := by
    rw [List.all_eq_true]
    intro k hk
    exact h k (by have := List.mem_range.1 hk; omega)
  rw [this, decide_eq_true h0]; simp
end Go.Proofs.Ytmcdmgnpbhkdhaa
