/- Contracts of wire.Get16, Get32, Put16. -/
import Derived.Test.YtfpifahkpkjfgaaByteS
import Derived.Test.YtfpifahkpkjfgaaBits
namespace Go.Proofs.Ytfpifahkpkjfgaa
open Go.RowKit
set_option linter.unusedVariables false

/-- bytes that lie in memory: place j of block g holds B j -/
def Bts (w : World) (g n : Nat) (B : Nat → Int) : Prop := ∀ j, j < n → w.cell? ⟨g, j, none⟩ = some (.int .u8 (B j))
def BOk (B : Nat → Int) : Prop := ∀ j, 0 ≤ B j ∧ B j ≤ 255
theorem Bts.kept {w w' : World} {g n : Nat} {B : Nat → Int} (h : Bts w g n B) (hb : Below w.heap.size w w') : Bts w' g n B := fun j hj => keep_cell hb (h j hj)
theorem word16 (x y : Int) (hx : 0 ≤ x) (hx' : x ≤ 255) (hy : 0 ≤ y) (hy' : y ≤ 255) :
    bits BinOp.or IntKind.u16 (IntKind.u16.wrap (IntKind.u16.wrap x * 256)) (IntKind.u16.wrap y) = x * 256 + y := by
  have e1 : IntKind.u16.wrap x = x := by rw [IntKind.wrap_u16]; omega
  have e2 : IntKind.u16.wrap y = y := by rw [IntKind.wrap_u16]; omega
  have e3 : IntKind.u16.wrap (x * 256) = x * 256 := by rw [IntKind.wrap_u16]; omega
  rw [e1, e2, e3, u16_or_byte x y hx hx' hy hy']
end Go.Proofs.Ytfpifahkpkjfgaa
