/- What the listed table gives a walk: its cells. -/
import Derived.Test.YtlehknaiddidaaaDoorCovW
import Derived.Test.YtlehknaiddidaaaDoorKit
import Derived.ProofKit
import Derived.LaidMore
import Derived.OpenShut
import Derived.Stop.Joined
namespace Go.Proofs.YtlehknaiddidaaaDoor
open Go.ChangeShapes Go.WideShapes Go.ChangeAt Go.WideMaps Go.WideElems Go.RowKit
set_option linter.unusedVariables false

theorem gTab : Tryd.prog.globalNamed "math/bits.deBruijn64tab" = some 0 := by kernel_rfl
theorem tTab : (Tryd.prog.globals[0]?).map (·.type) = some 37 := by kernel_rfl
def laid1 : List (String × DataW Unit) := [("math/bits.deBruijn64tab", Rows.laid_math_bits_deBruijn64tab)]
theorem tab_data : (Rows.laid_math_bits_deBruijn64tab : DataW Unit) = .agg (Lib.deBruijn64tab.map fun (k : Nat) => DataW.lit (.int .u8 (k : Int))) := rfl
/-- The door's own heap meets the condition. -/
theorem door_met (os : Os) (args : Array Value) : laidMetH Tryd.prog laid1 ((World.doorLaid Tryd.prog 400 os).forCall (fun _ _ => 0) ⟨#[], args, []⟩).memory :=
  laidMetH_of_parts3 (fuel := 8) (laidMet_of_run' 8 (by kernel_rfl) (by kernel_rfl)) (by kernel_rfl) (by kernel_rfl)
theorem tab_of_laid {W : World} (h : laidMetH Tryd.prog laid1 W) : Tab W := by
  rw [MakeChecks.laidMetH_plain _ _ _ (by kernel_rfl)] at h
  obtain ⟨ps, ⟨g0, t0, cs0, f0, p0, q0, hg0, ht0, hv0, hd0, _, _⟩, _, _⟩ := h
  obtain rfl := Option.some.inj (gTab.symm.trans hg0)
  obtain rfl := Option.some.inj (tTab.symm.trans ht0)
  obtain ⟨xs, m1, rfl, hx1, hlen, hn3, hel⟩ := DataW.trod_array Tryd.underlying37 hd0
  have c3 : Tryd.prog.cellsOf 5 = 1 := by kernel_rfl
  intro j hj
  have h0 := hel j hj
  rw [tab_data] at hx1
  simp only [Prod.mk.injEq, DataW.agg.injEq] at hx1
  have hj64 : j < 64 := hj
  have hjx : j < xs.length := by omega
  rw [c3, Nat.mul_one, List.getElem?_eq_getElem hjx] at h0
  obtain ⟨k, e1, e2, _⟩ := DataW.trod_int Tryd.underlying5 h0
  have e3 := congrArg (fun l => l[j]?) hx1.1
  simp only [List.getElem?_map, List.getElem?_eq_getElem hj, List.getElem?_eq_getElem hjx, Option.map_some, Option.some.injEq] at e3
  have e4 : xs[j].1 = .lit (.int .u8 k) := by rw [e2]
  rw [e4] at e3
  have hk : k = (Lib.deBruijn64tab[j] : Int) := by injection e3 with e5; injection e5 with _ e6; exact e6.symm
  have e7 : cs0.toList[j]? = some (.int .u8 k) := by
    have := congrArg (fun l => l[0]?) e1
    simp only [List.getElem?_take, List.getElem?_drop, Nat.add_zero] at this
    simpa using this
  have e8 := World.var?_cell hg0 hv0 j
  have e9 : cs0[j]? = some (.int .u8 k) := by rw [← e7]; simp
  rw [e8, e9, hk]
  simp [List.getD_eq_getElem?_getD, List.getElem?_eq_getElem hj]
  rfl
end Go.Proofs.YtlehknaiddidaaaDoor
