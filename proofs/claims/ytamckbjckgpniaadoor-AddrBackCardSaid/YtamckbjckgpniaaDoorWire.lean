/- Contracts of wire.Append16, Append32, over a slice of one's own. -/
import Derived.Test.YtamckbjckgpniaaDoorWin
namespace Go.Proofs.YtamckbjckgpniaaDoor
open Go.RowKit
set_option linter.unusedVariables false

/-- grown, and what came of it grown again -/
theorem grown_two {w w1 w2 : World} {r1 r2 : Option Nat} (h1 : w.grownBy w1 r1) (h2 : w1.grownBy w2 r2) (h : r2 = r1 ∨ ∃ k, r2 = some k ∧ w.heap.size ≤ k) : w.grownBy w2 r1 :=
  ⟨h2.os.trans h1.os, h2.tape.trans h1.tape, h2.output.trans h1.output, Nat.le_trans h1.size h2.size, fun i hi hne => (h2.block i (Nat.lt_of_lt_of_le hi h1.size) (by
    rcases h with rfl | ⟨k, rfl, hk⟩
    · exact hne
    · intro e; injection e with e; omega)).trans (h1.block i hi hne)⟩
/-- a byte -/
def b8 (x : Int) : Value := .int .u8 (x % 256)
theorem b8_one (l : List Int) : ∀ u ∈ l.map b8, u.oneCell' = true := by
  intro u hu
  obtain ⟨x, _, rfl⟩ := List.mem_map.1 hu
  rfl
theorem elem_u8 : ∃ i z, Tryd.prog.info? 5 = some i ∧ i.zero = some z ∧ i.size = 1 ∧ i.bytes = 1 ∧ z.cells.size = 1 := elem_of (by kernel_rfl)
/-- bytes of one's own, in the slice v -/
abbrev OwnB (w : World) (base : Nat) (v : Value) (l : List Int) : Prop := Win w base 1 v l.length (l.map b8)
theorem nums_set (x y : Int) : [Value.int .u8 (x % 256), Value.int .u8 (y % 256)] = [x, y].map b8 := rfl
end Go.Proofs.YtamckbjckgpniaaDoor
