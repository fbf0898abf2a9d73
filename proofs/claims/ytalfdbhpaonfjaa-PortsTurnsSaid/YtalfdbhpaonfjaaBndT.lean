/- PortsTurns: the plain law. -/
import Derived.Test.YtalfdbhpaonfjaaBndL
import Derived.Test.YtalfdbhpaonfjaaMapI
namespace Go.Proofs.Ytalfdbhpaonfjaa
open Go.RowKit Go.Lib
set_option linter.unusedVariables false
set_option linter.unusedSimpArgs false
set_option linter.unusedSectionVars false

def tB (a p : Int) (i : Nat) : KBound := ⟨17, a, p, 0, 0, true, (i : Int) + 1⟩
def tL (a p : Int) (n : Nat) : List KBound := (List.range n).map (tB a p)
theorem tL_len (a p : Int) (n : Nat) : (tL a p n).length = n := by simp [tL]
theorem tL_succ (a p : Int) (n : Nat) : tL a p (n + 1) = tL a p n ++ [tB a p n] := by simp [tL, List.range_succ]
section
variable {a p : Int} (ha : 1 ≤ a) (ha' : a ≤ 4294967295) (hp : 1 ≤ p) (hp' : p ≤ 65535)
include ha ha' hp hp'
theorem tB_ok (i : Nat) : pOk (tB a p i) = true := by
  exact decide_eq_true ⟨.inr rfl, hp, hp', by show (0 : Int) ≤ 0; omega, by show (0 : Int) ≤ 65535; omega, fun _ => rfl, fun h => absurd rfl h⟩
theorem tB_no (n i : Nat) : pClashes (tL a p n) (tB a p i) = false := by
  unfold pClashes
  refine List.any_eq_false.2 fun b hb => ?_
  obtain ⟨j, _, rfl⟩ := List.mem_map.1 hb
  simp [pClash, pSame, pShare, tB]
theorem tB_bndok (i : Nat) (hi : i < 100) : BndOk (tB a p i) :=
  ⟨⟨by show (-9223372036854775808 : Int) ≤ 17; omega, by show (17 : Int) ≤ 9223372036854775807; omega⟩, ⟨by show 0 ≤ a; omega, ha'⟩, ⟨by show -9223372036854775808 ≤ p; omega, by show p ≤ 9223372036854775807; omega⟩, ⟨by show (0 : Int) ≤ 0; omega, by show (0 : Int) ≤ 4294967295; omega⟩, ⟨by show (-9223372036854775808 : Int) ≤ 0; omega, by show (0 : Int) ≤ 9223372036854775807; omega⟩, ⟨by show -9223372036854775808 ≤ (i : Int) + 1; omega, by show (i : Int) + 1 ≤ 9223372036854775807; omega⟩⟩
theorem tL_bind (n : Nat) (hn : n < 8) : pBindE (tL a p n) (tB a p n) = 0 ∧ pBind (tL a p n) (tB a p n) = tL a p (n + 1) := by
  constructor
  · unfold pBindE
    rw [if_pos (tB_ok ha ha' hp hp' n), tB_no ha ha' hp hp', if_neg (by simp), if_neg (by rw [tL_len]; omega)]
  · unfold pBind
    rw [if_pos ⟨tB_ok ha ha' hp hp' n, tB_no ha ha' hp hp' n n, by rw [tL_len]; omega⟩, tL_succ]
theorem tL_inv (n : Nat) (hn : n ≤ 8) : BInv (tL a p n) := by
  induction n with
  | zero => exact binv_nil
  | succ n ih =>
    have := binv_bind (ih (by omega)) (tB a p n) (tB_bndok ha ha' hp hp' n (by omega))
    rw [(tL_bind ha ha' hp hp' n (by omega)).2] at this
    exact this
theorem tL_find (n : Nat) (hn : 0 < n) (fa fp : Int) (hfp : 1 ≤ fp) (N : Nat) : pFind (tL a p n) 17 ⟨a, p⟩ ⟨fa, fp⟩ N = (((N % n : Nat) : Int) + 1, true) := by
  have h1 : pBest (tL a p n) 17 ⟨a, p⟩ ⟨fa, fp⟩ = [] := by
    unfold pBest
    rw [List.filter_eq_nil_iff.2, List.map_nil]
    intro b hb
    obtain ⟨j, _, rfl⟩ := List.mem_map.1 hb
    have : ¬ (0 : Int) = fp := by omega
    simp [pSel, tB, this]
  have h2 : pBest (tL a p n) 17 ⟨a, p⟩ ⟨0, 0⟩ = (List.range n).map (fun i : Nat => (i : Int) + 1) := by
    unfold pBest
    rw [List.filter_eq_self.2]
    · unfold tL; rw [List.map_map]; rfl
    · intro b hb
      obtain ⟨j, _, rfl⟩ := List.mem_map.1 hb
      simp [pSel, tB]
  have h3 : (List.range n).map (fun i : Nat => (i : Int) + 1) ≠ [] := by
    intro e
    have := congrArg List.length e
    simp at this
    omega
  unfold pFind
  rw [h1, if_neg (by simp), h2, if_pos h3]
  unfold pAt
  simp only [List.length_map, List.length_range]
  rw [List.getElem?_eq_getElem (by simpa using Nat.mod_lt N hn)]
  simp
theorem tL_used (n : Nat) (hn : 0 < n) : pBindE (tL a p n) ⟨17, a, p, 0, 0, false, 99⟩ = 15 := by
  have hok : pOk ⟨17, a, p, 0, 0, false, 99⟩ = true := by
    exact decide_eq_true ⟨.inr rfl, hp, hp', by show (0 : Int) ≤ 0; omega, by show (0 : Int) ≤ 65535; omega, fun _ => rfl, fun h => absurd rfl h⟩
  have hc : pClashes (tL a p n) ⟨17, a, p, 0, 0, false, 99⟩ = true := by
    unfold pClashes
    refine List.any_eq_true.2 ⟨tB a p 0, List.mem_map.2 ⟨0, List.mem_range.2 hn, rfl⟩, ?_⟩
    simp [pClash, pSame, pShare, tB]
  unfold pBindE
  rw [if_pos hok, hc, if_pos rfl]
end
theorem mPut_mem {κ ν : Type} [DecidableEq κ] {m : List (κ × ν)} {k : κ} {v : ν} {q : κ × ν} (h : q ∈ mPut m k v) : q ∈ m ∨ q.1 = k := by
  unfold mPut at h
  split at h
  · obtain ⟨p, hp, rfl⟩ := List.mem_map.1 h
    by_cases e : p.1 = k
    · rw [if_pos e]; exact .inr rfl
    · rw [if_neg e]; exact .inl hp
  · rcases List.mem_append.1 h with h | h
    · exact .inl h
    · rw [List.mem_singleton] at h; exact .inr (by rw [h])
/-- of n numbers that follow on one another no two are the same, where they go round at n -/
theorem turn_ne {N n i j : Nat} (hj : j < i) (hi : i < n) : (N + j) % n ≠ (N + i) % n := fun e => by
  have h1 : (i - j) % n = 0 := by
    have := (Nat.sub_mod_eq_zero_of_mod_eq e.symm)
    rwa [show N + i - (N + j) = i - j by omega] at this
  rw [Nat.mod_eq_of_lt (by omega)] at h1
  omega
theorem mapTy_turn : MapTy Try.prog 50 3 3 fInt fInt := ⟨keyed_int, Try.underlying50, fun h => fInt_inj h⟩
end Go.Proofs.Ytalfdbhpaonfjaa
