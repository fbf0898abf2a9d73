/- Contracts of the package rto. -/
import Derived.Test.YtfpifahkpkjfgaaRest
namespace Go.Proofs.Ytfpifahkpkjfgaa
open Go.RowKit
set_option linter.unusedVariables false

/-- a Timer in memory -/
def timer (k : Bool) (m s d : Int) : List Value := [.bool k, .int .i64 m, .int .i64 s, .int .i64 d]
abbrev TimerAt (w : World) (g : Nat) (k : Bool) (m s d : Int) : Prop := At w g 109 (timer k m s d)
/-- what a Timer's numbers are bound by -/
def TimerOk (m s d : Int) : Prop := 0 ≤ m ∧ m ≤ 8796093022208 ∧ 0 ≤ s ∧ s ≤ 4398046511104 ∧ 0 ≤ d ∧ d ≤ 6

theorem rtoNew_any (w : World) : Calls Try.prog 61 #[] w fun e w' => e = .returned (.pointer (some ⟨w.heap.size, 0, none⟩)) ∧ TimerAt w' w.heap.size false 0 0 0 ∧ Below w.heap.size w w' := by
  go_enter Try.func61, Try.ntmps61
  go_wp2
  go_ret
  exact ⟨rfl, At.new_ _ _ _, below_ca (Below.refl _ _) _⟩

/-- how many ticks, before they are doubled -/
def baseZ (k : Bool) (m s : Int) : Int := if k then m / 8 + (if 1 < s then s else 1) else 3
def clipZ (n : Int) : Int := if n < 2 then 2 else if 64 < n then 64 else n
def valZ (k : Bool) (m s d : Int) : Int := clipZ (baseZ k m s * 2 ^ d.toNat)
theorem pow_bd (d : Int) (h : 0 ≤ d) (h' : d ≤ 6) : (1 : Int) ≤ 2 ^ d.toNat ∧ (2 : Int) ^ d.toNat ≤ 64 := by
  have : d = 0 ∨ d = 1 ∨ d = 2 ∨ d = 3 ∨ d = 4 ∨ d = 5 ∨ d = 6 := by omega
  rcases this with rfl | rfl | rfl | rfl | rfl | rfl | rfl <;> decide
theorem base_bd (m s : Int) (h1 : 0 ≤ m) (h2 : m ≤ 8796093022208) (h3 : 0 ≤ s) (h4 : s ≤ 4398046511104) : 1 ≤ m / 8 + (if 1 < s then s else 1) ∧ m / 8 + (if 1 < s then s else 1) ≤ 5497558138881 := by split <;> omega
theorem prod_bd (a b : Int) (h1 : 1 ≤ a) (h2 : a ≤ 5497558138881) (h3 : 1 ≤ b) (h4 : b ≤ 64) : 1 ≤ a * b ∧ a * b ≤ 351843768888384 := by
  have e1 : 1 * 1 ≤ a * b := Int.mul_le_mul h1 h3 (by omega) (by omega)
  have e2 : a * b ≤ 5497558138881 * 64 := Int.mul_le_mul h2 h4 (by omega) (by omega)
  omega
set_option maxHeartbeats 400000 in
theorem Value_any (g : Nat) (k : Bool) (m s d : Int) (w : World) (hT : TimerAt w g k m s d) (ho : TimerOk m s d) :
    Calls Try.prog 45 #[.pointer (some ⟨g, 0, none⟩)] w fun e w' => e = .returned (.int .i64 (valZ k m s d)) ∧ Below w.heap.size w w' := by
  have c0 : w.cell? ⟨g, 0, none⟩ = some (.bool k) := hT.cell 0
  have c1 : w.cell? ⟨g, 1, none⟩ = some (.int .i64 m) := hT.cell 1
  have c2 : w.cell? ⟨g, 2, none⟩ = some (.int .i64 s) := hT.cell 2
  have c3 : w.cell? ⟨g, 3, none⟩ = some (.int .i64 d) := hT.cell 3
  obtain ⟨h1, h2, h3, h4, h5, h6⟩ := ho
  obtain ⟨p1, p2⟩ := pow_bd d h5 h6
  cases k
  · go_enter Try.func45, Try.ntmps45
    go_wp2
    all_goals
      go_ret
      exact ⟨ret_int (by simp only [valZ, clipZ, baseZ, Bool.false_eq_true, if_false]; split <;> (try split) <;> omega), Below.refl _ _⟩
  · by_cases hs : 1 < s
    · obtain ⟨q1, q2⟩ := prod_bd (m / 8 + s) _ (by omega) (by omega) p1 p2
      go_enter Try.func45, Try.ntmps45
      go_wp2_with fail
      go_quiet (fail)
      go_wp2
      all_goals
        go_ret
        exact ⟨ret_int (by simp only [valZ, clipZ, baseZ, if_true]; rw [show (if 1 < s then s else 1) = s from if_pos hs]; split <;> (try split) <;> omega), below_dn (Below.refl _ _) _⟩
    · obtain ⟨q1, q2⟩ := prod_bd (m / 8 + 1) _ (by omega) (by omega) p1 p2
      go_enter Try.func45, Try.ntmps45
      go_wp2_with fail
      go_quiet (fail)
      go_wp2
      all_goals
        go_ret
        exact ⟨ret_int (by simp only [valZ, clipZ, baseZ, if_true]; rw [show (if 1 < s then s else 1) = 1 from if_neg (by omega)]; split <;> (try split) <;> omega), below_dn (Below.refl _ _) _⟩

theorem Late_any (g : Nat) (k : Bool) (m s d : Int) (w : World) (hT : TimerAt w g k m s d) (ho : TimerOk m s d) :
    Calls Try.prog 69 #[.pointer (some ⟨g, 0, none⟩)] w fun e w' => e = .returned (.tuple #[]) ∧ TimerAt w' g k m s (if d < 6 then d + 1 else 6) ∧ w.grownBy w' (some g) := by
  have c3 : w.cell? ⟨g, 3, none⟩ = some (.int .i64 d) := hT.cell 3
  have f3 : w.frozen? ⟨g, 3, none⟩ = false := hT.free 3
  obtain ⟨h1, h2, h3, h4, h5, h6⟩ := ho
  by_cases hd : d < 6
  · rw [if_pos hd]
    go_enter Try.func69, Try.ntmps69
    go_wp2
    go_end0
    exact ⟨rfl, hT.set_ 3 _, only_set (only_refl _ _) (.inl rfl) _⟩
  · rw [if_neg hd]
    have hd6 : d = 6 := by omega
    subst hd6
    go_enter Try.func69, Try.ntmps69
    go_wp2
    go_end0
    exact ⟨rfl, hT.set_ 3 _, only_set (only_refl _ _) (.inl rfl) _⟩

theorem Sample_no (g : Nat) (r : Int) (w : World) (hr : r < 0 ∨ 1099511627776 < r) :
    Calls Try.prog 88 #[.pointer (some ⟨g, 0, none⟩), .int .i64 r] w fun e w' => e = .returned (.int .i64 1) ∧ w = w' := by
  by_cases h : r < 0
  · go_enter Try.func88, Try.ntmps88
    go_wp2
    go_ret
    exact ⟨rfl, rfl⟩
  · have h2 : 1099511627776 < r := by omega
    clear hr
    go_enter Try.func88, Try.ntmps88
    go_wp2
    go_ret
    exact ⟨rfl, rfl⟩
set_option maxHeartbeats 400000 in
theorem Sample_first (g : Nat) (m s d r : Int) (w : World) (hT : TimerAt w g false m s d) (hr : 0 ≤ r) (hr' : r ≤ 1099511627776) :
    Calls Try.prog 88 #[.pointer (some ⟨g, 0, none⟩), .int .i64 r] w fun e w' => e = .returned (.int .i64 0) ∧ TimerAt w' g true (r * 8) (r * 2) 0 ∧ w.grownBy w' (some g) := by
  have c0 : w.cell? ⟨g, 0, none⟩ = some (.bool false) := hT.cell 0
  have c1 : w.cell? ⟨g, 1, none⟩ = some (.int .i64 m) := hT.cell 1
  have c2 : w.cell? ⟨g, 2, none⟩ = some (.int .i64 s) := hT.cell 2
  have c3 : w.cell? ⟨g, 3, none⟩ = some (.int .i64 d) := hT.cell 3
  have f0 : w.frozen? ⟨g, 0, none⟩ = false := hT.free 0
  have f1 : w.frozen? ⟨g, 1, none⟩ = false := hT.free 1
  have f2 : w.frozen? ⟨g, 2, none⟩ = false := hT.free 2
  have f3 : w.frozen? ⟨g, 3, none⟩ = false := hT.free 3
  go_enter Try.func88, Try.ntmps88
  go_wp2
  go_ret
  refine ⟨rfl, ?_, ?_⟩
  apply At.conv
  case h => repeat' (first | with_reducible exact hT | with_reducible apply At.set_ | with_reducible apply At.drew | with_reducible apply At.drewN | with_reducible apply At.alloc)
  case e => rfl
  repeat' (first | with_reducible exact only_refl _ _ | with_reducible assumption | with_reducible refine only_drew ?_ | with_reducible refine only_dn ?_ _ | with_reducible refine only_alloc ?_ _ | with_reducible refine only_set ?_ (.inl rfl) _ | with_reducible refine only_set ?_ (.inr (by simp)) _ | (refine only_below ?_ (by with_reducible assumption)) | (refine only_trans ?_ (by with_reducible assumption)))

def absZ (d : Int) : Int := if d < 0 then -d else d
set_option maxHeartbeats 400000 in
theorem Sample_next (g : Nat) (m s d r : Int) (w : World) (hT : TimerAt w g true m s d) (ho : TimerOk m s d) (hr : 0 ≤ r) (hr' : r ≤ 1099511627776) :
    Calls Try.prog 88 #[.pointer (some ⟨g, 0, none⟩), .int .i64 r] w fun e w' => e = .returned (.int .i64 0) ∧ TimerAt w' g true (m + (r - m / 8)) (s + (absZ (r - m / 8) - s / 4)) 0 ∧ w.grownBy w' (some g) := by
  have c0 : w.cell? ⟨g, 0, none⟩ = some (.bool true) := hT.cell 0
  have c1 : w.cell? ⟨g, 1, none⟩ = some (.int .i64 m) := hT.cell 1
  have c2 : w.cell? ⟨g, 2, none⟩ = some (.int .i64 s) := hT.cell 2
  have c3 : w.cell? ⟨g, 3, none⟩ = some (.int .i64 d) := hT.cell 3
  have f1 : w.frozen? ⟨g, 1, none⟩ = false := hT.free 1
  have f2 : w.frozen? ⟨g, 2, none⟩ = false := hT.free 2
  have f3 : w.frozen? ⟨g, 3, none⟩ = false := hT.free 3
  obtain ⟨h1, h2, h3, h4, h5, h6⟩ := ho
  by_cases hn : r - m / 8 < 0
  · rw [show absZ (r - m / 8) = -(r - m / 8) from if_pos hn]
    go_enter Try.func88, Try.ntmps88
    go_wp2
    go_region
    all_goals
      go_wp2
      go_ret
      refine ⟨rfl, ?_, ?_⟩
      apply At.conv
      case h => repeat' (first | with_reducible exact hT | with_reducible apply At.set_ | with_reducible apply At.drew | with_reducible apply At.drewN | with_reducible apply At.alloc)
      case e => rfl
      repeat' (first | with_reducible exact only_refl _ _ | with_reducible assumption | with_reducible refine only_drew ?_ | with_reducible refine only_dn ?_ _ | with_reducible refine only_alloc ?_ _ | with_reducible refine only_set ?_ (.inl rfl) _ | with_reducible refine only_set ?_ (.inr (by simp)) _ | (refine only_below ?_ (by with_reducible assumption)) | (refine only_trans ?_ (by with_reducible assumption)))
  · rw [show absZ (r - m / 8) = r - m / 8 from if_neg hn]
    go_enter Try.func88, Try.ntmps88
    go_wp2
    go_region
    all_goals
      go_wp2
      go_ret
      refine ⟨rfl, ?_, ?_⟩
      apply At.conv
      case h => repeat' (first | with_reducible exact hT | with_reducible apply At.set_ | with_reducible apply At.drew | with_reducible apply At.drewN | with_reducible apply At.alloc)
      case e => rfl
      repeat' (first | with_reducible exact only_refl _ _ | with_reducible assumption | with_reducible refine only_drew ?_ | with_reducible refine only_dn ?_ _ | with_reducible refine only_alloc ?_ _ | with_reducible refine only_set ?_ (.inl rfl) _ | with_reducible refine only_set ?_ (.inr (by simp)) _ | (refine only_below ?_ (by with_reducible assumption)) | (refine only_trans ?_ (by with_reducible assumption)))
theorem sample_ok (m s d r : Int) (ho : TimerOk m s d) (hr : 0 ≤ r) (hr' : r ≤ 1099511627776) : TimerOk (m + (r - m / 8)) (s + (absZ (r - m / 8) - s / 4)) 0 := by
  obtain ⟨h1, h2, h3, h4, h5, h6⟩ := ho
  unfold TimerOk absZ
  split <;> omega
theorem first_ok (r : Int) (hr : 0 ≤ r) (hr' : r ≤ 1099511627776) : TimerOk (r * 8) (r * 2) 0 := by unfold TimerOk; omega
theorem late_ok (m s d : Int) (ho : TimerOk m s d) : TimerOk m s (if d < 6 then d + 1 else 6) := by
  obtain ⟨h1, h2, h3, h4, h5, h6⟩ := ho
  unfold TimerOk
  split <;> omega
theorem zero_ok : TimerOk 0 0 0 := by unfold TimerOk; omega

/-- a Timer that is well, and nothing else has turned -/
def TimerOut (g : Nat) (w w' : World) : Prop := ∃ kn m s d, TimerAt w' g kn m s d ∧ TimerOk m s d ∧ w.grownBy w' (some g)
def RetInt (e : Ending) : Prop := ∃ r, e = .returned (.int .i64 r)
theorem Sample_some (g : Nat) (k : Bool) (m s d r : Int) (w : World) (hT : TimerAt w g k m s d) (ho : TimerOk m s d) :
    Calls Try.prog 88 #[.pointer (some ⟨g, 0, none⟩), .int .i64 r] w fun e w' => RetInt e ∧ TimerOut g w w' := by
  by_cases h : r < 0 ∨ 1099511627776 < r
  · exact (Sample_no g r w h).mono fun e w' ⟨he, hw⟩ => ⟨⟨_, he⟩, k, m, s, d, hw ▸ hT, ho, hw ▸ only_refl _ _⟩
  · cases k
    · exact (Sample_first g m s d r w hT (by omega) (by omega)).mono fun e w' ⟨he, hT', hO⟩ => ⟨⟨_, he⟩, true, _, _, _, hT', first_ok r (by omega) (by omega), hO⟩
    · exact (Sample_next g m s d r w hT ho (by omega) (by omega)).mono fun e w' ⟨he, hT', hO⟩ => ⟨⟨_, he⟩, true, _, _, _, hT', sample_ok m s d r ho (by omega) (by omega), hO⟩
theorem clip_bd (n : Int) : 2 ≤ clipZ n ∧ clipZ n ≤ 64 := by unfold clipZ; split <;> (try split) <;> omega
theorem val_bd (k : Bool) (m s d : Int) : 2 ≤ valZ k m s d ∧ valZ k m s d ≤ 64 := clip_bd _
theorem base_pos (k : Bool) (m s d : Int) (ho : TimerOk m s d) : 1 ≤ baseZ k m s := by
  obtain ⟨h1, h2, h3, h4, h5, h6⟩ := ho
  unfold baseZ
  split
  · split <;> omega
  · omega
theorem val_late (k : Bool) (m s d : Int) (ho : TimerOk m s d) : valZ k m s d ≤ valZ k m s (if d < 6 then d + 1 else 6) ∧ valZ k m s (if d < 6 then d + 1 else 6) ≤ 2 * valZ k m s d := by
  have hp := base_pos k m s d ho
  obtain ⟨h1, h2, h3, h4, h5, h6⟩ := ho
  by_cases h : d < 6
  · rw [if_pos h]
    unfold valZ
    rw [show (d + 1).toNat = d.toNat + 1 by omega, Int.pow_succ, ← Int.mul_assoc]
    have hq := (pow_bd d h5 h6).1
    have hb : 1 * 1 ≤ baseZ k m s * 2 ^ d.toNat := Int.mul_le_mul hp hq (by omega) (by omega)
    generalize baseZ k m s * 2 ^ d.toNat = q at *
    unfold clipZ
    constructor <;> (repeat' split) <;> omega
  · rw [if_neg h, show d = 6 by omega]
    have := val_bd k m s 6
    omega
end Go.Proofs.Ytfpifahkpkjfgaa
