/- Plain words on cookies, and Make where the mss is too small. -/
import Derived.Test.YtmcdmgnpbhkdhaaCookC
namespace Go.Proofs.Ytmcdmgnpbhkdhaa
open Go.RowKit
set_option linter.unusedVariables false

theorem step_ifs (mss : Int) : stepZ mss 8 = if 1000 ≤ mss then 7 else if 850 ≤ mss then 6 else if 700 ≤ mss then 5 else if 536 ≤ mss then 4 else if 400 ≤ mss then 3 else if 216 ≤ mss then 2 else if 64 ≤ mss then 1 else if 8 ≤ mss then 0 else 0 := rfl
theorem step_cases (mss : Int) (h : 8 ≤ mss) : (stepZ mss 8 = 0 ∧ mss < 64) ∨ (stepZ mss 8 = 1 ∧ 64 ≤ mss ∧ mss < 216) ∨ (stepZ mss 8 = 2 ∧ 216 ≤ mss ∧ mss < 400) ∨ (stepZ mss 8 = 3 ∧ 400 ≤ mss ∧ mss < 536) ∨ (stepZ mss 8 = 4 ∧ 536 ≤ mss ∧ mss < 700) ∨ (stepZ mss 8 = 5 ∧ 700 ≤ mss ∧ mss < 850) ∨ (stepZ mss 8 = 6 ∧ 850 ≤ mss ∧ mss < 1000) ∨ (stepZ mss 8 = 7 ∧ 1000 ≤ mss) := by
  rw [step_ifs]
  repeat' split
  all_goals omega
section
variable (now mss k0 k1 fa fp ta tp irs : Int)
def madeZ : Int := firstZ now mss * 16777216 + ckV k0 k1 fa fp ta tp irs (firstZ now mss)
variable (hn : 0 ≤ now)
theorem made_first : madeZ now mss k0 k1 fa fp ta tp irs / 16777216 = firstZ now mss := by
  have := ckV_bd k0 k1 fa fp ta tp irs (firstZ now mss); unfold madeZ; omega
theorem made_sum : ckV k0 k1 fa fp ta tp irs (madeZ now mss k0 k1 fa fp ta tp irs / 16777216) = madeZ now mss k0 k1 fa fp ta tp irs % 16777216 := by
  rw [made_first]
  have := ckV_bd k0 k1 fa fp ta tp irs (firstZ now mss); unfold madeZ; omega
theorem first_bd : 0 ≤ firstZ now mss ∧ firstZ now mss ≤ 255 := by
  have := stepZ_lt mss 8 (by omega); unfold firstZ; omega
theorem made_bd : 0 ≤ madeZ now mss k0 k1 fa fp ta tp irs ∧ madeZ now mss k0 k1 fa fp ta tp irs ≤ 4294967295 := by
  have := ckV_bd k0 k1 fa fp ta tp irs (firstZ now mss); have := first_bd now mss; unfold madeZ; omega
theorem first_step : firstZ now mss % 8 = (stepZ mss 8 : Int) := by
  have := stepZ_lt mss 8 (by omega); unfold firstZ; omega
theorem first_slot : firstZ now mss / 8 = now / 64 % 32 := by
  have := stepZ_lt mss 8 (by omega); unfold firstZ; omega
include hn
theorem slot_new (l : Int) (h : 0 ≤ l) (h' : l ≤ 64) : slotB (madeZ now mss k0 k1 fa fp ta tp irs) (now + l) = true := by
  unfold slotB
  rw [made_first, first_slot]
  by_cases e : now / 64 % 32 = (now + l) / 64 % 32
  · simp [e]
  · have : 64 ≤ now + l := by omega
    have e2 : now / 64 % 32 = (now + l - 64) / 64 % 32 := by omega
    simp [this, e2]
omit hn in
theorem slot_old (l : Int) (h : 128 ≤ l) (h' : l < 1984) : slotB (madeZ now mss k0 k1 fa fp ta tp irs) (now + l) = false := by
  unfold slotB
  rw [made_first, first_slot]
  have e1 : ¬ (now / 64 % 32 = (now + l) / 64 % 32) := by omega
  have e2 : ¬ (now / 64 % 32 = (now + l - 64) / 64 % 32) := by omega
  simp [e1, e2]
end
/-- the key, and two ends in boxes -/
def Ck3 (W : World) (kx b : Nat) (k0 k1 fa fp ta tp : Int) : Prop := KeyAt W kx k0 k1 ∧ At W b 42 [.int .u32 fa, .int .i64 fp] ∧ At W (b + 1) 42 [.int .u32 ta, .int .i64 tp]
theorem Ck3.kept {W W' : World} {kx b : Nat} {k0 k1 fa fp ta tp : Int} (h : Ck3 W kx b k0 k1 fa fp ta tp) (hb : Below W.heap.size W W') : Ck3 W' kx b k0 k1 fa fp ta tp := ⟨h.1.kept hb, h.2.1.kept hb, h.2.2.kept hb⟩
theorem Ck3.cells {W : World} {kx b : Nat} {k0 k1 fa fp ta tp : Int} (h : Ck3 W kx b k0 k1 fa fp ta tp) : W.cell? ⟨b, 0, none⟩ = some (.int .u32 fa) ∧ W.cell? ⟨b, 1, none⟩ = some (.int .i64 fp) ∧ W.cell? ⟨b + 1, 0, none⟩ = some (.int .u32 ta) ∧ W.cell? ⟨b + 1, 1, none⟩ = some (.int .i64 tp) := by
  have x0 := h.2.1.cell 0
  have x1 := h.2.1.cell 1
  have x2 := h.2.2.cell 0
  have x3 := h.2.2.cell 1
  exact ⟨x0, x1, x2, x3⟩
set_option maxRecDepth 100000 in
set_option maxHeartbeats 1000000 in
theorem Make_no (g : Nat) (fa fp ta tp irs mss now : Int) (w : World) (hm : mss < 8) (hn : 0 ≤ now) (hn' : now ≤ 1099511627776) :
    Calls Try.prog 32 #[.pointer (some ⟨g, 0, none⟩), .agg #[.int .u32 fa, .int .i64 fp], .agg #[.int .u32 ta, .int .i64 tp], .int .u32 irs, .int .i64 mss, .int .i64 now] w fun e w' =>
      e = .returned (.tuple #[.int .u32 0, .int .i64 1]) ∧ Below w.heap.size w w' := by
  go_enter Try.func32, Try.ntmps32
  go_upto_region 1 with (fail)
  refine wp_gen (fun W => Below w.heap.size w W) (by repeat' (first | with_reducible exact Below.refl _ _ | with_reducible assumption | with_reducible refine Below.drew ?_ | with_reducible refine below_dn ?_ _ | with_reducible refine below_ca ?_ _ | with_reducible refine Below.setCell ?_ ?_ _ | (refine below_c ?_ (by with_reducible assumption)) | (simp <;> omega) | omega)) ?_
  intro W1 hB1
  go_wp2_with (go_at_call 46; go_must (refine (isTime_any _ _ (by omega) (by omega)).mono ?_; rintro e w1 ⟨rfl, rfl⟩))
  go_ret2
  exact ⟨rfl, hB1⟩
end Go.Proofs.Ytmcdmgnpbhkdhaa
