/- What ConnStops needs, a part: CongC, SeqC. -/
import Derived.Test.YtfpifahkpkjfgaaMConnStops1
namespace Go.Proofs.Ytfpifahkpkjfgaa
open Go.RowKit
set_option linter.unusedVariables false
def window (m s l : Int) : List Value := [.int .i64 m, .int .i64 s, .int .i64 l]
abbrev WindowAt (w : World) (g : Nat) (m s l : Int) : Prop := At w g 123 (window m s l)
def WindowOk (m s l : Int) : Prop := 8 ≤ m ∧ m ≤ 1000 ∧ m ≤ s ∧ s ≤ 65535 ∧ 2 * m ≤ l ∧ l ≤ 65535
theorem congNew_yes (m : Int) (w : World) (h1 : 8 ≤ m) (h2 : m ≤ 1000) :
  Calls Try.prog 86 #[.int .i64 m] w fun e w' => e = .returned (.tuple #[.pointer (some ⟨w.heap.size, 0, none⟩), .int .i64 0]) ∧ WindowAt w' w.heap.size m (2 * m) 65535 ∧ Below w.heap.size w w' := by
 go_enter Try.func86, Try.ntmps86
 go_wp2
 go_ret2
 exact ⟨rfl, At.new_ _ _ _, below_ca (Below.refl _ _) _⟩
theorem Size_any (g : Nat) (m s l : Int) (w : World) (hT : WindowAt w g m s l) :
  Calls Try.prog 64 #[.pointer (some ⟨g, 0, none⟩)] w fun e w' => e = .returned (.int .i64 s) ∧ w = w' := by
 have c1 : w.cell? ⟨g, 1, none⟩ = some (.int .i64 s) := hT.cell 1
 go_enter Try.func64, Try.ntmps64
 go_wp2
 go_ret
 exact ⟨rfl, rfl⟩
def halfZ (m f : Int) : Int := if 65535 < (if (if 0 < f then f else 0) / 2 < 2 * m then 2 * m else (if 0 < f then f else 0) / 2) then 65535 else (if (if 0 < f then f else 0) / 2 < 2 * m then 2 * m else (if 0 < f then f else 0) / 2)
set_option maxHeartbeats 400000 in
theorem halve_any (g : Nat) (m s l f : Int) (w : World) (hT : WindowAt w g m s l) (ho : WindowOk m s l) (hf : -9223372036854775808 ≤ f) (hf' : f ≤ 9223372036854775807) :
  Calls Try.prog 84 #[.pointer (some ⟨g, 0, none⟩), .int .i64 f] w fun e w' => e = .returned (.tuple #[]) ∧ WindowAt w' g m s (halfZ m f) ∧ w.grownBy w' (some g) := by
 have c0 : w.cell? ⟨g, 0, none⟩ = some (.int .i64 m) := hT.cell 0
 have c2 : w.cell? ⟨g, 2, none⟩ = some (.int .i64 l) := hT.cell 2
 have f2 : w.frozen? ⟨g, 2, none⟩ = false := hT.free 2
 obtain ⟨h1, h2, h3, h4, h5, h6⟩ := ho
 by_cases hpos : 0 < f
 ·by_cases hq : f / 2 < 2 * m
  ·have hv : halfZ m f = 2 * m := by unfold halfZ; simp only [if_pos hpos, if_pos hq]; exact if_neg (by omega)
   rw [hv]
   clear hv
   go_enter Try.func84, Try.ntmps84
   go_wp2
   go_end0
   exact ⟨rfl, hT.set_ 2 _, only_set (only_refl _ _) (.inl rfl) _⟩
  ·by_cases hb : 65535 < f / 2
   ·have hv : halfZ m f = 65535 := by unfold halfZ; simp only [if_pos hpos, if_neg hq]; exact if_pos hb
    rw [hv]
    clear hv
    go_enter Try.func84, Try.ntmps84
    go_wp2
    go_end0
    exact ⟨rfl, hT.set_ 2 _, only_set (only_refl _ _) (.inl rfl) _⟩
   ·have hv : halfZ m f = f / 2 := by unfold halfZ; simp only [if_pos hpos, if_neg hq]; exact if_neg hb
    rw [hv]
    clear hv
    go_enter Try.func84, Try.ntmps84
    go_wp2
    go_end0
    exact ⟨rfl, hT.set_ 2 _, only_set (only_refl _ _) (.inl rfl) _⟩
 ·have hv : halfZ m f = 2 * m := by
   have : (0 : Int) / 2 < 2 * m := by omega
   unfold halfZ; simp only [if_neg hpos, if_pos this]; exact if_neg (by omega)
  rw [hv]
  clear hv
  go_enter Try.func84, Try.ntmps84
  go_wp2
  all_goals go_end0
  all_goals exact ⟨rfl, hT.set_ 2 _, only_set (only_refl _ _) (.inl rfl) _⟩
def minZ (a b : Int) : Int := if a < b then a else b
def maxZ (a b : Int) : Int := if a < b then b else a
def ackZ (m s l n : Int) : Int := minZ (s + (if s < l then minZ n m else maxZ 1 (m * m / s))) 65535
theorem quo_bd (m s : Int) (h1 : 8 ≤ m) (h2 : m ≤ 1000) (h3 : m ≤ s) : 0 ≤ m * m ∧ m * m ≤ 1000000 ∧ 0 ≤ m * m / s ∧ m * m / s ≤ m := by
 have e1 : 0 ≤ m * m := Int.mul_nonneg (by omega) (by omega)
 have e2 : m * m ≤ 1000 * 1000 := Int.mul_le_mul h2 h2 (by omega) (by omega)
 have e3 : m * m ≤ m * s := Int.mul_le_mul_of_nonneg_left h3 (by omega)
 exact ⟨e1, by omega, Int.ediv_nonneg e1 (by omega), Int.ediv_le_of_le_mul (by omega) e3⟩
set_option maxRecDepth 100000 in
set_option maxHeartbeats 400000 in
theorem Acked_fast (g : Nat) (m s l n : Int) (w : World) (hT : WindowAt w g m s l) (ho : WindowOk m s l) (hn : 1 ≤ n) (hn' : n ≤ 9223372036854775807) (hsl : s < l) :
  Calls Try.prog 89 #[.pointer (some ⟨g, 0, none⟩), .int .i64 n] w fun e w' => e = .returned (.tuple #[]) ∧ WindowAt w' g m (ackZ m s l n) l ∧ w.grownBy w' (some g) := by
 have c0 : w.cell? ⟨g, 0, none⟩ = some (.int .i64 m) := hT.cell 0
 have c1 : w.cell? ⟨g, 1, none⟩ = some (.int .i64 s) := hT.cell 1
 have c2 : w.cell? ⟨g, 2, none⟩ = some (.int .i64 l) := hT.cell 2
 have f1 : w.frozen? ⟨g, 1, none⟩ = false := hT.free 1
 obtain ⟨h1, h2, h3, h4, h5, h6⟩ := ho
 by_cases hm : n < m
 all_goals
  go_enter Try.func89, Try.ntmps89
  go_wp2_with fail
  go_quiet (fail)
  go_wp2_with fail
  go_region
  all_goals go_wp2
  all_goals
   go_end0
   refine ⟨rfl, ?_, ?_⟩
   ·apply At.conv
    case h => repeat' (first | exact hT | apply At.set_ | apply At.drew | apply At.drewN)
    case e =>
     refine congrArg (fun x => window m x l) ?_
     unfold ackZ minZ
     rw [if_pos hsl]
     (repeat' split) <;> omega
   ·repeat' (first | with_reducible exact only_refl _ _ | with_reducible assumption | with_reducible refine only_drew ?_ | with_reducible refine only_dn ?_ _ | with_reducible refine only_alloc ?_ _ | with_reducible refine only_set ?_ (.inl rfl) _ | with_reducible refine only_set ?_ (.inr (by simp)) _ | (refine only_below ?_ (by with_reducible assumption)) | (refine only_trans ?_ (by with_reducible assumption)))
set_option maxRecDepth 100000 in
set_option maxHeartbeats 400000 in
theorem Acked_slow (g : Nat) (m s l n : Int) (w : World) (hT : WindowAt w g m s l) (ho : WindowOk m s l) (hn : 1 ≤ n) (hn' : n ≤ 9223372036854775807) (hsl : l ≤ s) :
  Calls Try.prog 89 #[.pointer (some ⟨g, 0, none⟩), .int .i64 n] w fun e w' => e = .returned (.tuple #[]) ∧ WindowAt w' g m (ackZ m s l n) l ∧ w.grownBy w' (some g) := by
 have c0 : w.cell? ⟨g, 0, none⟩ = some (.int .i64 m) := hT.cell 0
 have c1 : w.cell? ⟨g, 1, none⟩ = some (.int .i64 s) := hT.cell 1
 have c2 : w.cell? ⟨g, 2, none⟩ = some (.int .i64 l) := hT.cell 2
 have f1 : w.frozen? ⟨g, 1, none⟩ = false := hT.free 1
 obtain ⟨h1, h2, h3, h4, h5, h6⟩ := ho
 obtain ⟨q1, q2, q3, q4⟩ := quo_bd m s h1 h2 h3
 by_cases hm : 1 < m * m / s
 all_goals
  go_enter Try.func89, Try.ntmps89
  go_wp2_with fail
  go_quiet (fail)
  go_wp2_with fail
  go_region
  all_goals go_wp2
  all_goals
   go_end0
   refine ⟨rfl, ?_, ?_⟩
   ·apply At.conv
    case h => repeat' (first | exact hT | apply At.set_ | apply At.drew | apply At.drewN)
    case e =>
     refine congrArg (fun x => window m x l) ?_
     unfold ackZ minZ maxZ
     rw [if_neg (by omega : ¬ s < l)]
     (repeat' split) <;> omega
   ·repeat' (first | with_reducible exact only_refl _ _ | with_reducible assumption | with_reducible refine only_drew ?_ | with_reducible refine only_dn ?_ _ | with_reducible refine only_alloc ?_ _ | with_reducible refine only_set ?_ (.inl rfl) _ | with_reducible refine only_set ?_ (.inr (by simp)) _ | (refine only_below ?_ (by with_reducible assumption)) | (refine only_trans ?_ (by with_reducible assumption)))
theorem Acked_none (g : Nat) (n : Int) (w : World) (hn : n < 1) (hn' : -9223372036854775808 ≤ n) :
  Calls Try.prog 89 #[.pointer (some ⟨g, 0, none⟩), .int .i64 n] w fun e w' => e = .returned (.tuple #[]) ∧ w = w' := by
 go_enter Try.func89, Try.ntmps89
 go_wp2
 refine bodyPost_ret (results_none rfl _ _ _) rfl ?_
 exact ⟨rfl, rfl⟩
def dZ (a b : Int) : Int := (a - b + 2147483648) % 4294967296 - 2147483648
theorem dZ_lo (a b : Int) : -2147483648 ≤ dZ a b := by unfold dZ; omega
theorem dZ_hi (a b : Int) : dZ a b ≤ 2147483647 := by unfold dZ; omega
def inB (n from_ many : Int) : Bool := decide (0 < many ∧ (n - from_) % 4294967296 < many)
theorem inB_pos {n f m : Int} (h : 0 < m) : inB n f m = decide ((n - f) % 4294967296 < m) := by unfold inB; simp [h]
theorem inB_neg {n f m : Int} (h : m ≤ 0) : inB n f m = false := by unfold inB; simp; omega
set_option maxHeartbeats 400000 in
theorem Diff_any (a b : Int) (w : World) (_ha : 0 ≤ a) (_ha' : a ≤ 4294967295) (_hb : 0 ≤ b) (_hb' : b ≤ 4294967295) :
  Calls Try.prog 81 #[.int .u32 a, .int .u32 b] w fun e w' => e = .returned (.int .i64 (dZ a b)) ∧ w = w' := by
 go_enter Try.func81, Try.ntmps81
 go_wp2
 go_ret
 exact ⟨ret_int (by unfold dZ wrap64 wrap32; omega), rfl⟩
set_option maxHeartbeats 400000 in
theorem Less_any (a b : Int) (w : World) (_ha : 0 ≤ a) (_ha' : a ≤ 4294967295) (_hb : 0 ≤ b) (_hb' : b ≤ 4294967295) :
  Calls Try.prog 51 #[.int .u32 a, .int .u32 b] w fun e w' => e = .returned (.bool (decide (dZ a b < 0))) ∧ w = w' := by
 go_enter Try.func51, Try.ntmps51
 go_wp2_with (go_at_call 81; refine (Diff_any _ _ _ (by omega) (by omega) (by omega) (by omega)).mono ?_; rintro e w' ⟨rfl, rfl⟩)
 go_ret
 exact ⟨rfl, rfl⟩
set_option maxHeartbeats 400000 in
theorem In_any (n from_ many : Int) (w : World) (_ha : 0 ≤ n) (_ha' : n ≤ 4294967295) (_hb : 0 ≤ from_) (_hb' : from_ ≤ 4294967295) (_hm : -9223372036854775808 ≤ many) (_hm' : many ≤ 9223372036854775807) :
  Calls Try.prog 90 #[.int .u32 n, .int .u32 from_, .int .i64 many] w fun e w' => e = .returned (.bool (inB n from_ many)) ∧ w = w' := by
 by_cases h : 0 < many
 ·go_enter Try.func90, Try.ntmps90
  go_wp2
  go_ret
  exact ⟨ret_bool (inB_pos h).symm, rfl⟩
 ·go_enter Try.func90, Try.ntmps90
  go_wp2
  go_ret
  exact ⟨ret_bool (inB_neg (by omega)).symm, rfl⟩
def accB (n l next win : Int) : Bool :=
 if l < 1 then (if win < 1 then n == next else inB n next win) else if win < 1 then false else (inB n next win || inB ((n + l - 1) % 4294967296) next win)
theorem accB_a {n l x win : Int} (h1 : l < 1) (h2 : win < 1) : accB n l x win = (n == x) := by simp [accB, h1, h2]
theorem accB_b {n l x win : Int} (h1 : l < 1) (h2 : 1 ≤ win) : accB n l x win = inB n x win := by simp only [accB]; rw [if_pos h1, if_neg (by omega)]
theorem accB_c {n l x win : Int} (h1 : 1 ≤ l) (h2 : win < 1) : accB n l x win = false := by simp only [accB]; rw [if_neg (by omega), if_pos h2]
theorem accB_d {n l x win : Int} (h1 : 1 ≤ l) (h2 : 1 ≤ win) : accB n l x win = (inB n x win || inB ((n + l - 1) % 4294967296) x win) := by simp only [accB]; rw [if_neg (by omega), if_neg (by omega)]
set_option maxHeartbeats 400000 in
theorem Accept_any (n l next win : Int) (w : World) (_ha : 0 ≤ n) (_ha' : n ≤ 4294967295) (_hb : 0 ≤ next) (_hb' : next ≤ 4294967295) (_hl : -9223372036854775808 ≤ l) (_hl' : l ≤ 9223372036854775807) (_hm : -9223372036854775808 ≤ win) (_hm' : win ≤ 9223372036854775807) :
  Calls Try.prog 76 #[.int .u32 n, .int .i64 l, .int .u32 next, .int .i64 win] w fun e w' => e = .returned (.bool (accB n l next win)) ∧ w = w' := by
 by_cases h1 : l < 1
 ·by_cases h2 : win < 1
  ·go_enter Try.func76, Try.ntmps76
   go_wp2
   go_ret
   exact ⟨ret_bool (accB_a h1 h2).symm, rfl⟩
  ·go_enter Try.func76, Try.ntmps76
   go_wp2_with (go_at_call 90; refine (In_any _ _ _ _ (by omega) (by omega) (by omega) (by omega) (by omega) (by omega)).mono ?_; rintro e w' ⟨rfl, rfl⟩)
   go_ret
   exact ⟨ret_bool (accB_b h1 (by omega)).symm, rfl⟩
 ·by_cases h2 : win < 1
  ·go_enter Try.func76, Try.ntmps76
   go_wp2
   go_ret
   exact ⟨ret_bool (accB_c (by omega) h2).symm, rfl⟩
  ·have hx : (n + l % 4294967296) % 4294967296 = (n + l) % 4294967296 := by omega
   have hy : ((n + l) % 4294967296 - 1) % 4294967296 = (n + l - 1) % 4294967296 := by omega
   have Hx := Lib.hid hx
   have Hy := Lib.hid hy
   clear hx hy
   by_cases h3 : inB n next win = true
   ·go_enter Try.func76, Try.ntmps76
    go_wp2_with (go_at_call 90; refine (In_any _ _ _ _ (by omega) (by omega) (by omega) (by omega) (by omega) (by omega)).mono ?_; rintro e w' ⟨rfl, rfl⟩)
    go_ret
    exact ⟨ret_bool (by rw [accB_d (by omega) (by omega), h3]; rfl), rfl⟩
   ·have h3' : inB n next win = false := by simpa using h3
    go_enter Try.func76, Try.ntmps76
    go_wp2_with (go_at_call 90; refine (In_any _ _ _ _ (by omega) (by omega) (by omega) (by omega) (by omega) (by omega)).mono ?_; rintro e w' ⟨rfl, rfl⟩)
    go_ret
    exact ⟨ret_bool (by rw [accB_d (by omega) (by omega), h3', ← Hy.out, ← Hx.out]; rfl), rfl⟩
def nearZ (n at_ : Int) : Int := at_ + dZ n (at_ % 4294967296)
set_option maxHeartbeats 400000 in
theorem Near_any (n at_ : Int) (w : World) (_ha : 0 ≤ n) (_ha' : n ≤ 4294967295) (_hl : 0 ≤ at_) (_hl' : at_ ≤ 1152921504606846976) :
  Calls Try.prog 75 #[.int .u32 n, .int .i64 at_] w fun e w' => e = .returned (.int .i64 (nearZ n at_)) ∧ w = w' := by
 have h1 := dZ_lo n (at_ % 4294967296)
 have h2 := dZ_hi n (at_ % 4294967296)
 go_enter Try.func75, Try.ntmps75
 go_wp2_with (go_at_call 81; refine (Diff_any _ _ _ (by omega) (by omega) (by omega) (by omega)).mono ?_; rintro e w' ⟨rfl, rfl⟩)
 go_ret
 exact ⟨rfl, rfl⟩
end Go.Proofs.Ytfpifahkpkjfgaa
