/- Contracts of the package cong. -/
import Derived.Test.YtfpifahkpkjfgaaRest
namespace Go.Proofs.Ytfpifahkpkjfgaa
open Go.RowKit
set_option linter.unusedVariables false

/-- a Window in memory -/
def window (m s l : Int) : List Value := [.int .i64 m, .int .i64 s, .int .i64 l]
abbrev WindowAt (w : World) (g : Nat) (m s l : Int) : Prop := At w g 123 (window m s l)
def WindowOk (m s l : Int) : Prop := 8 ≤ m ∧ m ≤ 1000 ∧ m ≤ s ∧ s ≤ 65535 ∧ 2 * m ≤ l ∧ l ≤ 65535

theorem congNew_no (m : Int) (w : World) (h : m < 8 ∨ 1000 < m) (h1 : -9223372036854775808 ≤ m) (h2 : m ≤ 9223372036854775807) :
    Calls Try.prog 86 #[.int .i64 m] w fun e w' => e = .returned (.tuple #[.pointer none, .int .i64 1]) ∧ w = w' := by
  by_cases h8 : m < 8
  · go_enter Try.func86, Try.ntmps86
    go_wp2
    go_ret2
    exact ⟨rfl, rfl⟩
  · have h9 : 1000 < m := by omega
    clear h
    go_enter Try.func86, Try.ntmps86
    go_wp2
    go_ret2
    exact ⟨rfl, rfl⟩
theorem congNew_yes (m : Int) (w : World) (h1 : 8 ≤ m) (h2 : m ≤ 1000) :
    Calls Try.prog 86 #[.int .i64 m] w fun e w' => e = .returned (.tuple #[.pointer (some ⟨w.heap.size, 0, none⟩), .int .i64 0]) ∧ WindowAt w' w.heap.size m (2 * m) 65535 ∧ Below w.heap.size w w' := by
  go_enter Try.func86, Try.ntmps86
  go_wp2
  go_ret2
  exact ⟨rfl, At.new_ _ _ _, below_ca (Below.refl _ _) _⟩
theorem Size_any (g : Nat) (m s l : Int) (w : World) (hT : WindowAt w g m s l) :
    Calls Try.prog 64 #[.pointer (some ⟨g, 0, none⟩)] w fun e w' => e = .returned (.int .i64 s) ∧ w = w' := by
  have c1 : w.cell? ⟨g, 1, none⟩ = some (.int .i64 s) := hT.cell 1
  go_enter Try.func64, Try.ntmps64
  go_wp2
  go_ret
  exact ⟨rfl, rfl⟩

def halfZ (m f : Int) : Int := if 65535 < (if (if 0 < f then f else 0) / 2 < 2 * m then 2 * m else (if 0 < f then f else 0) / 2) then 65535 else (if (if 0 < f then f else 0) / 2 < 2 * m then 2 * m else (if 0 < f then f else 0) / 2)
set_option maxHeartbeats 400000 in
theorem halve_any (g : Nat) (m s l f : Int) (w : World) (hT : WindowAt w g m s l) (ho : WindowOk m s l) (hf : -9223372036854775808 ≤ f) (hf' : f ≤ 9223372036854775807) :
    Calls Try.prog 84 #[.pointer (some ⟨g, 0, none⟩), .int .i64 f] w fun e w' => e = .returned (.tuple #[]) ∧ WindowAt w' g m s (halfZ m f) ∧ w.grownBy w' (some g) := by
  have c0 : w.cell? ⟨g, 0, none⟩ = some (.int .i64 m) := hT.cell 0
  have c2 : w.cell? ⟨g, 2, none⟩ = some (.int .i64 l) := hT.cell 2
  have f2 : w.frozen? ⟨g, 2, none⟩ = false := hT.free 2
  obtain ⟨h1, h2, h3, h4, h5, h6⟩ := ho
  by_cases hpos : 0 < f
  · by_cases hq : f / 2 < 2 * m
    · have hv : halfZ m f = 2 * m := by unfold halfZ; simp only [if_pos hpos, if_pos hq]; exact if_neg (by omega)
      rw [hv]
      clear hv
      go_enter Try.func84, Try.ntmps84
      go_wp2
      go_end0
      exact ⟨rfl, hT.set_ 2 _, only_set (only_refl _ _) (.inl rfl) _⟩
    · by_cases hb : 65535 < f / 2
      · have hv : halfZ m f = 65535 := by unfold halfZ; simp only [if_pos hpos, if_neg hq]; exact if_pos hb
        rw [hv]
        clear hv
        go_enter Try.func84, Try.ntmps84
        go_wp2
        go_end0
        exact ⟨rfl, hT.set_ 2 _, only_set (only_refl _ _) (.inl rfl) _⟩
      · have hv : halfZ m f = f / 2 := by unfold halfZ; simp only [if_pos hpos, if_neg hq]; exact if_neg hb
        rw [hv]
        clear hv
        go_enter Try.func84, Try.ntmps84
        go_wp2
        go_end0
        exact ⟨rfl, hT.set_ 2 _, only_set (only_refl _ _) (.inl rfl) _⟩
  · have hv : halfZ m f = 2 * m := by
      have : (0 : Int) / 2 < 2 * m := by omega
      unfold halfZ; simp only [if_neg hpos, if_pos this]; exact if_neg (by omega)
    rw [hv]
    clear hv
    go_enter Try.func84, Try.ntmps84
    go_wp2
    all_goals go_end0
    all_goals exact ⟨rfl, hT.set_ 2 _, only_set (only_refl _ _) (.inl rfl) _⟩
def minZ (a b : Int) : Int := if a < b then a else b
def maxZ (a b : Int) : Int := if a < b then b else a
def ackZ (m s l n : Int) : Int := minZ (s + (if s < l then minZ n m else maxZ 1 (m * m / s))) 65535
theorem quo_bd (m s : Int) (h1 : 8 ≤ m) (h2 : m ≤ 1000) (h3 : m ≤ s) : 0 ≤ m * m ∧ m * m ≤ 1000000 ∧ 0 ≤ m * m / s ∧ m * m / s ≤ m := by
  have e1 : 0 ≤ m * m := Int.mul_nonneg (by omega) (by omega)
  have e2 : m * m ≤ 1000 * 1000 := Int.mul_le_mul h2 h2 (by omega) (by omega)
  have e3 : m * m ≤ m * s := Int.mul_le_mul_of_nonneg_left h3 (by omega)
  exact ⟨e1, by omega, Int.ediv_nonneg e1 (by omega), Int.ediv_le_of_le_mul (by omega) e3⟩
set_option maxRecDepth 100000 in
set_option maxHeartbeats 400000 in
theorem Acked_fast (g : Nat) (m s l n : Int) (w : World) (hT : WindowAt w g m s l) (ho : WindowOk m s l) (hn : 1 ≤ n) (hn' : n ≤ 9223372036854775807) (hsl : s < l) :
    Calls Try.prog 89 #[.pointer (some ⟨g, 0, none⟩), .int .i64 n] w fun e w' => e = .returned (.tuple #[]) ∧ WindowAt w' g m (ackZ m s l n) l ∧ w.grownBy w' (some g) := by
  have c0 : w.cell? ⟨g, 0, none⟩ = some (.int .i64 m) := hT.cell 0
  have c1 : w.cell? ⟨g, 1, none⟩ = some (.int .i64 s) := hT.cell 1
  have c2 : w.cell? ⟨g, 2, none⟩ = some (.int .i64 l) := hT.cell 2
  have f1 : w.frozen? ⟨g, 1, none⟩ = false := hT.free 1
  obtain ⟨h1, h2, h3, h4, h5, h6⟩ := ho
  by_cases hm : n < m
  all_goals
    go_enter Try.func89, Try.ntmps89
    go_wp2_with fail
    go_quiet (fail)
    go_wp2_with fail
    go_region
    all_goals go_wp2
    all_goals
      go_end0
      refine ⟨rfl, ?_, ?_⟩
      · apply At.conv
        case h => repeat' (first | exact hT | apply At.set_ | apply At.drew | apply At.drewN)
        case e =>
          refine congrArg (fun x => window m x l) ?_
          unfold ackZ minZ
          rw [if_pos hsl]
          (repeat' split) <;> omega
      · repeat' (first | with_reducible exact only_refl _ _ | with_reducible assumption | with_reducible refine only_drew ?_ | with_reducible refine only_dn ?_ _ | with_reducible refine only_alloc ?_ _ | with_reducible refine only_set ?_ (.inl rfl) _ | with_reducible refine only_set ?_ (.inr (by simp)) _ | (refine only_below ?_ (by with_reducible assumption)) | (refine only_trans ?_ (by with_reducible assumption)))
set_option maxRecDepth 100000 in
set_option maxHeartbeats 400000 in
theorem Acked_slow (g : Nat) (m s l n : Int) (w : World) (hT : WindowAt w g m s l) (ho : WindowOk m s l) (hn : 1 ≤ n) (hn' : n ≤ 9223372036854775807) (hsl : l ≤ s) :
    Calls Try.prog 89 #[.pointer (some ⟨g, 0, none⟩), .int .i64 n] w fun e w' => e = .returned (.tuple #[]) ∧ WindowAt w' g m (ackZ m s l n) l ∧ w.grownBy w' (some g) := by
  have c0 : w.cell? ⟨g, 0, none⟩ = some (.int .i64 m) := hT.cell 0
  have c1 : w.cell? ⟨g, 1, none⟩ = some (.int .i64 s) := hT.cell 1
  have c2 : w.cell? ⟨g, 2, none⟩ = some (.int .i64 l) := hT.cell 2
  have f1 : w.frozen? ⟨g, 1, none⟩ = false := hT.free 1
  obtain ⟨h1, h2, h3, h4, h5, h6⟩ := ho
  obtain ⟨q1, q2, q3, q4⟩ := quo_bd m s h1 h2 h3
  by_cases hm : 1 < m * m / s
  all_goals
    go_enter Try.func89, Try.ntmps89
    go_wp2_with fail
    go_quiet (fail)
    go_wp2_with fail
    go_region
    all_goals go_wp2
    all_goals
      go_end0
      refine ⟨rfl, ?_, ?_⟩
      · apply At.conv
        case h => repeat' (first | exact hT | apply At.set_ | apply At.drew | apply At.drewN)
        case e =>
          refine congrArg (fun x => window m x l) ?_
          unfold ackZ minZ maxZ
          rw [if_neg (by omega : ¬ s < l)]
          (repeat' split) <;> omega
      · repeat' (first | with_reducible exact only_refl _ _ | with_reducible assumption | with_reducible refine only_drew ?_ | with_reducible refine only_dn ?_ _ | with_reducible refine only_alloc ?_ _ | with_reducible refine only_set ?_ (.inl rfl) _ | with_reducible refine only_set ?_ (.inr (by simp)) _ | (refine only_below ?_ (by with_reducible assumption)) | (refine only_trans ?_ (by with_reducible assumption)))
theorem Acked_none (g : Nat) (n : Int) (w : World) (hn : n < 1) (hn' : -9223372036854775808 ≤ n) :
    Calls Try.prog 89 #[.pointer (some ⟨g, 0, none⟩), .int .i64 n] w fun e w' => e = .returned (.tuple #[]) ∧ w = w' := by
  go_enter Try.func89, Try.ntmps89
  go_wp2
  refine bodyPost_ret (results_none rfl _ _ _) rfl ?_
  exact ⟨rfl, rfl⟩
end Go.Proofs.Ytfpifahkpkjfgaa
