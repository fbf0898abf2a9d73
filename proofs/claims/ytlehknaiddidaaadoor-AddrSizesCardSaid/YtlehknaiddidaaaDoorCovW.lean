/- The contracts of math/bits' Len64 and TrailingZeros64, as addr.Cover asks them. -/
import Derived.Test.YtlehknaiddidaaaDoorCovN
import Derived.Test.YtlehknaiddidaaaDoorRow
import Derived.Test.YtlehknaiddidaaaDoorSt
import Derived.Shelf.Spec.TrailingZeros
import Derived.Shelf.Strconv.Itoa0
namespace Go.Proofs.YtlehknaiddidaaaDoor
open Go.RowKit Go.Shelf
set_option linter.unusedVariables false

/-- the library's table, where it was laid -/
def Tab (w : World) : Prop := ∀ j, j < Lib.deBruijn64tab.length → w.cell? ⟨0, j, none⟩ = some (.int .u8 (Lib.deBruijn64tab.getD j 0))
theorem Tab.kept {w w' : World} (h : Tab w) (hb : Below w.heap.size w w') : Tab w' := fun j hj => keep_cell hb (h j hj)
set_option maxRecDepth 100000 in
set_option maxHeartbeats 2000000 in
theorem tz_core (x k idx : Nat) (w : World) (hx0 : ((x : Int) == 0) = false)
    (key : IntKind.u64.wrap (bits BinOp.and IntKind.u64 (x : Int) (IntKind.u64.wrap (-(x : Int))) * 285870213051353865) / 288230376151711744 = (idx : Int))
    (hi : idx < 64) (hk : k < 64) (hcell : w.cell? ⟨0, idx, none⟩ = some (.int .u8 k)) :
    Calls Tryd.prog 9 #[.int .u64 x] w fun e w' => e = .returned (.int .i64 k) ∧ w = w' := by
  go_enter Tryd.func9, Tryd.ntmps9
  go_wp2_with (simp only [key])
  go_ret
  exact ⟨rfl, rfl⟩
theorem tz_any (x : Nat) (hx : x < 18446744073709551616) (hx0 : x ≠ 0) (w : World) (hT : Tab w) :
    Calls Tryd.prog 9 #[.int .u64 x] w fun e w' => e = .returned (.int .i64 (Lib.ctz 64 x)) ∧ w = w' := by
  obtain ⟨hlow, hk⟩ := Lib.lowest_bit 64 x hx0 hx
  obtain ⟨hi, htab⟩ := Lib.deBruijn64_at _ hk
  have hcell := hT _ hi
  rw [htab] at hcell
  exact tz_core x _ _ w (by simp; omega) (tz64_key x _ hx hx0 hlow) hi hk hcell
def lenRen : Shelf.Ren := { f := fun _ => 10, t := fun k => if k = 3 then 3 else if k = 4 then 4 else if k = 5 then 5 else if k = 9 then 9 else if k = 46 then 38 else 34, g := fun _ => 0 }
theorem lenLay : Lays.n129 Tryd.prog lenRen :=
  { mixed := by kernel_rfl, f129 := by kernel_rfl, t3 := by kernel_rfl, a3 := fun _ => by kernel_rfl, z3 := fun _ => by kernel_rfl, v3 := fun _ => by kernel_rfl, t4 := by kernel_rfl, a4 := fun _ => by kernel_rfl, z4 := fun _ => by kernel_rfl, v4 := fun _ => by kernel_rfl, t5 := by kernel_rfl, a5 := fun _ => by kernel_rfl, z5 := fun _ => by kernel_rfl, v5 := fun _ => by kernel_rfl, t9 := by kernel_rfl, a9 := fun _ => by kernel_rfl, z9 := fun _ => by kernel_rfl, v9 := fun _ => by kernel_rfl, t46 := by kernel_rfl, a46 := fun _ => by kernel_rfl, z46 := fun _ => by kernel_rfl, v46 := fun _ => by kernel_rfl, t53 := by kernel_rfl, a53 := fun _ => by kernel_rfl, z53 := fun _ => by kernel_rfl, v53 := fun _ => by kernel_rfl }
theorem len64_any (x : Int) (w : World) (h0 : 0 ≤ x) (h1 : x ≤ 18446744073709551615) :
    Calls Tryd.prog 10 #[.int .u64 x] w fun e w' => e = .returned (.int .i64 (Lib.bitLen x.toNat)) ∧ w = w' :=
  (Any.bits_Len64 lenLay x w h0 h1).mono fun _ _ ⟨h1, h2⟩ => ⟨h1, h2.symm⟩
end Go.Proofs.YtlehknaiddidaaaDoor
