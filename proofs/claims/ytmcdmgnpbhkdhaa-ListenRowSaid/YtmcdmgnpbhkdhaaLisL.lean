/- The plain law of ListenFull. -/
import Derived.Test.YtmcdmgnpbhkdhaaLisE
namespace Go.Proofs.Ytmcdmgnpbhkdhaa
open Go.RowKit Go.Lib
set_option linter.unusedVariables false

theorem lis_hand {E : Nat → Prop} {w W : World} {g gm : Nat} {q : KLis} {v : Value} (m : List Res) (hM : MemX E w W (lisL g gm q v ++ m)) : LisPre W W g gm q v q v := hM.hand
theorem lis_put {E : Nat → Prop} {w W W' : World} {g gm : Nat} {q q' : KLis} {v v' : Value} (m : List Res) (hM : MemX E w W (lisL g gm q v ++ m)) (h : LisPre W W' g gm q v q' v') : MemX E w W' (lisL g gm q' v' ++ m) := hM.back h
def halfN (i : Nat) : List (KEnd × Int) := (List.range i).map fun (j : Nat) => (⟨0, (j : Int)⟩, 1)
def qN (b i : Nat) : KLis := ⟨b, halfN i, []⟩
theorem halfN_len (i : Nat) : (halfN i).length = i := by simp [halfN]
theorem halfN_no (i : Nat) (p : Int) (h : (i : Int) ≤ p) : mHas (halfN i) ⟨0, p⟩ = false := by
  unfold mHas
  rw [mGet_none (m := halfN i) (fun x hx e => by
    obtain ⟨j, hj, rfl⟩ := List.mem_map.1 hx
    have : ((j : Int)) = p := congrArg KEnd.p e
    have := List.mem_range.1 hj
    omega)]
  rfl
theorem qN_step (b i : Nat) (h : i < b) : lHalf (qN b i) ⟨0, i⟩ = qN b (i + 1) ∧ lHalfB (qN b i) ⟨0, i⟩ = true ∧ lHalfE (qN b i) ⟨0, i⟩ = 0 := by
  have h1 : mHas (qN b i).half ⟨0, (i : Int)⟩ = false := halfN_no i i (Int.le_refl _)
  have h2 : lisI (qN b i) ⟨0, (i : Int)⟩ = -1 := rfl
  have hn : ¬ (mHas (qN b i).half ⟨0, (i : Int)⟩ = true ∨ 0 ≤ lisI (qN b i) ⟨0, (i : Int)⟩) := by rw [h1, h2]; simp
  have hl : ¬ (((qN b i).half.length : Int) = (qN b i).bl) := by
    show ¬ (((halfN i).length : Int) = (b : Int))
    rw [halfN_len]; omega
  refine ⟨?_, ?_, ?_⟩
  · unfold lHalf
    rw [if_neg hn, if_neg hl]
    show KLis.mk (b : Int) (mPut (halfN i) ⟨0, (i : Int)⟩ 1) [] = KLis.mk (b : Int) (halfN (i + 1)) []
    have h3 : ¬ mHas (halfN i) ⟨0, (i : Int)⟩ = true := by rw [halfN_no i i (Int.le_refl _)]; simp
    unfold mPut
    rw [if_neg h3]
    unfold halfN
    rw [List.range_succ, List.map_append]; rfl
  · unfold lHalfB
    rw [if_neg hn, if_neg hl]
  · unfold lHalfE
    rw [if_neg hn]
theorem qN_ok (b i : Nat) (h : i ≤ b) (h1 : 1 ≤ b) (h2 : b ≤ 8) : LisOk (qN b i) := ⟨by show (1 : Int) ≤ (b : Int); omega, by show (b : Int) ≤ 8; omega, by show (halfN i).length ≤ 8; rw [halfN_len]; omega, by show (0 : Nat) ≤ 8; omega⟩
abbrev e99 : KEnd := ⟨0, 99⟩
abbrev e98 : KEnd := ⟨0, 98⟩
abbrev e00 : KEnd := ⟨0, 0⟩
def qF1 (b : Nat) : KLis := lGone (qN b b) e00
def qF2 (b : Nat) : KLis := lHalf (qF1 b) e99
def qF3 (b : Nat) : KLis := lDone (qF2 b) e99 7
def qF4 (b : Nat) : KLis := lHalf (qF3 b) e98
structure FullFacts (b : Nat) : Prop where
  a0 : lHalf (qN b b) e99 = qN b b
  a1 : lHalfB (qN b b) e99 = false
  a2 : lHalfE (qN b b) e99 = 0
  b0 : LisOk (qF1 b)
  b1 : lGoneE (qN b b) e00 = 0
  c0 : LisOk (qF2 b)
  c1 : lHalfB (qF1 b) e99 = true
  c2 : lHalfE (qF1 b) e99 = 0
  d0 : LisOk (qF3 b)
  d1 : lDoneE (qF2 b) e99 = 0
  f0 : LisOk (qF4 b)
  f1 : lHalfB (qF3 b) e98 = true
  f2 : lHalfE (qF3 b) e98 = 0
  f3 : (qF4 b).wt = [⟨7, 0, 99⟩]
theorem full_facts (b : Nat) (h1 : 1 ≤ b) (h2 : b ≤ 8) : FullFacts b := by
  have h : b = 1 ∨ b = 2 ∨ b = 3 ∨ b = 4 ∨ b = 5 ∨ b = 6 ∨ b = 7 ∨ b = 8 := by omega
  rcases h with rfl | rfl | rfl | rfl | rfl | rfl | rfl | rfl
  all_goals exact ⟨rfl, rfl, rfl, ⟨by decide, by decide, by decide, by decide⟩, rfl, ⟨by decide, by decide, by decide, by decide⟩, rfl, rfl, ⟨by decide, by decide, by decide, by decide⟩, rfl, ⟨by decide, by decide, by decide, by decide⟩, rfl, rfl, rfl⟩
theorem eok (p : Int) (h : 0 ≤ p) (h2 : p ≤ 1000) : EndOk ⟨0, p⟩ := ⟨by simp, by simp, by show (-9223372036854775808 : Int) ≤ p; omega, by show p ≤ (9223372036854775807 : Int); omega⟩
end Go.Proofs.Ytmcdmgnpbhkdhaa
