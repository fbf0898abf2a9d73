/- The plain law of Split: fragments one behind the other. -/
import Derived.Test.YtmcdmgnpbhkdhaaIpC
namespace Go.Proofs.Ytmcdmgnpbhkdhaa
set_option linter.unusedVariables false

/-- fragment k of those that are full -/
def frK (p : Pk) (m k : Nat) : Pk := { p with off := (m * k : Nat) / 8, mf := true, b := p.b.extract (m * k) (m * k + m) }
/-- the last one -/
def frZ (p : Pk) (m k : Nat) : Pk := { p with off := (m * k : Nat) / 8, b := p.b.extract (m * k) p.b.size }
def frs (p : Pk) (m n : Nat) : List Pk := (List.range n).map (frK p m)
theorem frs_succ (p : Pk) (m n : Nat) : frs p m (n + 1) = frs p m n ++ [frK p m n] := by unfold frs; rw [List.range_succ, List.map_append]; rfl
theorem frs_len (p : Pk) (m n : Nat) : (frs p m n).length = n := by simp [frs]
theorem frs_get (p : Pk) (m n k : Nat) (h : k < n) : (frs p m n)[k]? = some (frK p m k) := by
  unfold frs; rw [List.getElem?_map, List.getElem?_range h]; rfl
/-- all fragments -/
def frAll (p : Pk) (m n : Nat) : List Pk := frs p m n ++ [frZ p m n]
theorem frAll_len (p : Pk) (m n : Nat) : (frAll p m n).length = n + 1 := by simp [frAll, frs_len]
theorem frAll_get (p : Pk) (m n k : Nat) (h : k ≤ n) : (frAll p m n)[k]? = some (if k < n then frK p m k else frZ p m n) := by
  unfold frAll
  split
  · rename_i h1; rw [List.getElem?_append_left (by rw [frs_len]; exact h1)]; exact frs_get p m n k h1
  · rename_i h1
    obtain rfl : k = n := by omega
    rw [List.getElem?_append_right (by rw [frs_len]; exact Nat.le_refl _), frs_len, Nat.sub_self]; rfl
/-- what the first n of them say -/
theorem fr_text (b : ByteArray) (x y : Nat) (h : x ≤ y) (hy : y ≤ b.size) : b.extract 0 x ++ b.extract x y = b.extract 0 y := by
  have e : ∀ (i j : Nat), (b.extract i j).data.toList = (b.data.toList.drop i).take (j - i) := fun i j => by
    rw [ByteArray.data_extract, Array.toList_extract, List.extract_eq_take_drop]
  have : (b.extract 0 x ++ b.extract x y).data.toList = (b.extract 0 y).data.toList := by
    rw [ByteArray.data_append, Array.toList_append, e, e, e]
    simp only [List.drop_zero, Nat.sub_zero]
    have h1 := List.take_add (l := b.data.toList) (i := x) (j := y - x)
    rw [show x + (y - x) = y by omega] at h1
    exact h1.symm
  exact str_ext this
end Go.Proofs.Ytmcdmgnpbhkdhaa
