/- What ConnBreaks needs, a part: SeqC. -/
import Derived.Test.YtfpifahkpkjfgaaMZ
import Derived.Test.YtfpifahkpkjfgaaMConnBreaks1
/- Contracts of the package seq: what Diff, Less, In, Accept and Near return, and of Rest; each for all arguments that fit their types. -/
namespace Go.Proofs.Ytfpifahkpkjfgaa
open Go.RowKit
set_option linter.unusedVariables false
/-- int(int32(a - b)) -/
def dZ (a b : Int) : Int := (a - b + 2147483648) % 4294967296 - 2147483648
theorem dZ_lo (a b : Int) : -2147483648 ≤ dZ a b := by unfold dZ; omega
theorem dZ_hi (a b : Int) : dZ a b ≤ 2147483647 := by unfold dZ; omega
def inB (n from_ many : Int) : Bool := decide (0 < many ∧ (n - from_) % 4294967296 < many)
theorem inB_pos {n f m : Int} (h : 0 < m) : inB n f m = decide ((n - f) % 4294967296 < m) := by unfold inB; simp [h]
theorem inB_neg {n f m : Int} (h : m ≤ 0) : inB n f m = false := by unfold inB; simp; omega
set_option maxHeartbeats 400000 in
theorem Diff_any (a b : Int) (w : World) (_ha : 0 ≤ a) (_ha' : a ≤ 4294967295) (_hb : 0 ≤ b) (_hb' : b ≤ 4294967295) :
  Calls Try.prog 81 #[.int .u32 a, .int .u32 b] w fun e w' => e = .returned (.int .i64 (dZ a b)) ∧ w = w' := by
 go_enter Try.func81, Try.ntmps81
 go_wp2
 go_ret
 exact ⟨ret_int (by unfold dZ wrap64 wrap32; omega), rfl⟩
set_option maxHeartbeats 400000 in
theorem Less_any (a b : Int) (w : World) (_ha : 0 ≤ a) (_ha' : a ≤ 4294967295) (_hb : 0 ≤ b) (_hb' : b ≤ 4294967295) :
  Calls Try.prog 51 #[.int .u32 a, .int .u32 b] w fun e w' => e = .returned (.bool (decide (dZ a b < 0))) ∧ w = w' := by
 go_enter Try.func51, Try.ntmps51
 go_wp2_with (go_at_call 81; refine (Diff_any _ _ _ (by omega) (by omega) (by omega) (by omega)).mono ?_; rintro e w' ⟨rfl, rfl⟩)
 go_ret
 exact ⟨rfl, rfl⟩
set_option maxHeartbeats 400000 in
theorem In_any (n from_ many : Int) (w : World) (_ha : 0 ≤ n) (_ha' : n ≤ 4294967295) (_hb : 0 ≤ from_) (_hb' : from_ ≤ 4294967295) (_hm : -9223372036854775808 ≤ many) (_hm' : many ≤ 9223372036854775807) :
  Calls Try.prog 90 #[.int .u32 n, .int .u32 from_, .int .i64 many] w fun e w' => e = .returned (.bool (inB n from_ many)) ∧ w = w' := by
 by_cases h : 0 < many
 ·go_enter Try.func90, Try.ntmps90
  go_wp2
  go_ret
  exact ⟨ret_bool (inB_pos h).symm, rfl⟩
 ·go_enter Try.func90, Try.ntmps90
  go_wp2
  go_ret
  exact ⟨ret_bool (inB_neg (by omega)).symm, rfl⟩
def accB (n l next win : Int) : Bool :=
 if l < 1 then (if win < 1 then n == next else inB n next win) else if win < 1 then false else (inB n next win || inB ((n + l - 1) % 4294967296) next win)
theorem accB_a {n l x win : Int} (h1 : l < 1) (h2 : win < 1) : accB n l x win = (n == x) := by simp [accB, h1, h2]
theorem accB_b {n l x win : Int} (h1 : l < 1) (h2 : 1 ≤ win) : accB n l x win = inB n x win := by simp only [accB]; rw [if_pos h1, if_neg (by omega)]
theorem accB_c {n l x win : Int} (h1 : 1 ≤ l) (h2 : win < 1) : accB n l x win = false := by simp only [accB]; rw [if_neg (by omega), if_pos h2]
theorem accB_d {n l x win : Int} (h1 : 1 ≤ l) (h2 : 1 ≤ win) : accB n l x win = (inB n x win || inB ((n + l - 1) % 4294967296) x win) := by simp only [accB]; rw [if_neg (by omega), if_neg (by omega)]
set_option maxHeartbeats 400000 in
theorem Accept_any (n l next win : Int) (w : World) (_ha : 0 ≤ n) (_ha' : n ≤ 4294967295) (_hb : 0 ≤ next) (_hb' : next ≤ 4294967295) (_hl : -9223372036854775808 ≤ l) (_hl' : l ≤ 9223372036854775807) (_hm : -9223372036854775808 ≤ win) (_hm' : win ≤ 9223372036854775807) :
  Calls Try.prog 76 #[.int .u32 n, .int .i64 l, .int .u32 next, .int .i64 win] w fun e w' => e = .returned (.bool (accB n l next win)) ∧ w = w' := by
 by_cases h1 : l < 1
 ·by_cases h2 : win < 1
  ·go_enter Try.func76, Try.ntmps76
   go_wp2
   go_ret
   exact ⟨ret_bool (accB_a h1 h2).symm, rfl⟩
  ·go_enter Try.func76, Try.ntmps76
   go_wp2_with (go_at_call 90; refine (In_any _ _ _ _ (by omega) (by omega) (by omega) (by omega) (by omega) (by omega)).mono ?_; rintro e w' ⟨rfl, rfl⟩)
   go_ret
   exact ⟨ret_bool (accB_b h1 (by omega)).symm, rfl⟩
 ·by_cases h2 : win < 1
  ·go_enter Try.func76, Try.ntmps76
   go_wp2
   go_ret
   exact ⟨ret_bool (accB_c (by omega) h2).symm, rfl⟩
  ·have hx : (n + l % 4294967296) % 4294967296 = (n + l) % 4294967296 := by omega
   have hy : ((n + l) % 4294967296 - 1) % 4294967296 = (n + l - 1) % 4294967296 := by omega
   have Hx := Lib.hid hx
   have Hy := Lib.hid hy
   clear hx hy
   by_cases h3 : inB n next win = true
   ·go_enter Try.func76, Try.ntmps76
    go_wp2_with (go_at_call 90; refine (In_any _ _ _ _ (by omega) (by omega) (by omega) (by omega) (by omega) (by omega)).mono ?_; rintro e w' ⟨rfl, rfl⟩)
    go_ret
    exact ⟨ret_bool (by rw [accB_d (by omega) (by omega), h3]; rfl), rfl⟩
   ·have h3' : inB n next win = false := by simpa using h3
    go_enter Try.func76, Try.ntmps76
    go_wp2_with (go_at_call 90; refine (In_any _ _ _ _ (by omega) (by omega) (by omega) (by omega) (by omega) (by omega)).mono ?_; rintro e w' ⟨rfl, rfl⟩)
    go_ret
    exact ⟨ret_bool (by rw [accB_d (by omega) (by omega), h3', ← Hy.out, ← Hx.out]; rfl), rfl⟩
def nearZ (n at_ : Int) : Int := at_ + dZ n (at_ % 4294967296)
set_option maxHeartbeats 400000 in
theorem Near_any (n at_ : Int) (w : World) (_ha : 0 ≤ n) (_ha' : n ≤ 4294967295) (_hl : 0 ≤ at_) (_hl' : at_ ≤ 1152921504606846976) :
  Calls Try.prog 75 #[.int .u32 n, .int .i64 at_] w fun e w' => e = .returned (.int .i64 (nearZ n at_)) ∧ w = w' := by
 have h1 := dZ_lo n (at_ % 4294967296)
 have h2 := dZ_hi n (at_ % 4294967296)
 go_enter Try.func75, Try.ntmps75
 go_wp2_with (go_at_call 81; refine (Diff_any _ _ _ (by omega) (by omega) (by omega) (by omega)).mono ?_; rintro e w' ⟨rfl, rfl⟩)
 go_ret
 exact ⟨rfl, rfl⟩
end Go.Proofs.Ytfpifahkpkjfgaa
