/- Small lemmas for the frame of every law: what a value of a given type looks like (numbers in their bounds, structs cell by cell). -/
import Derived.Test.YtamckbjckgpniaaDoorRows
import Derived.WalkKit
import Derived.ProofKit
import Derived.OpenShut
import Derived.ChangeOld
import Derived.Below
import Derived.SizedLaws
import Derived.ChangeMaps5
namespace Go.Proofs.YtamckbjckgpniaaDoor
open Go.ChangeShapes Go.WideShapes Go.ChangeAt Go.RowKit

theorem Kit.own : ownKnob Tryd.prog.godebug = none := by kernel_rfl
theorem Kit.laidOut : laidOutB Tryd.prog = true := by kernel_rfl

section
variable {P : Program} {w : World} {r : Reach} {b : Nat} {t : TypeId} {v : Value}
theorem cell_int {k : IntKind} (h : P.underlying t = some (.int k)) (hv : Cell.okWide P w r b t v) : ∃ n, v = .int k n ∧ k.min ≤ n ∧ n ≤ k.max := by
  simp only [Cell.okWide, Cell.ok, h] at hv
  cases v <;> simp_all [IntKind.has]
theorem cell_bool (h : P.underlying t = some .bool) (hv : Cell.okWide P w r b t v) : ∃ x, v = .bool x := by
  simp only [Cell.okWide, Cell.ok, h] at hv
  cases v <;> simp_all
theorem cell_string (h : P.underlying t = some .string) (hv : Cell.okWide P w r b t v) : ∃ s : ByteArray, v = .string s ∧ s.size ≤ 9223372036854775807 := by
  simp only [Cell.okWide, Cell.ok, h] at hv
  cases v <;> simp_all
  have h2 : IntKind.i64.max = 9223372036854775807 := rfl
  omega
theorem val_cell_int {k : IntKind} (h : P.underlying t = some (.int k)) (hv : Value.okWide P w r b t v) : Cell.okWide P w r b t v := by
  simpa only [Value.okWide, h] using hv
theorem val_cell_bool (h : P.underlying t = some .bool) (hv : Value.okWide P w r b t v) : Cell.okWide P w r b t v := by
  simpa only [Value.okWide, h] using hv
theorem val_cell_string (h : P.underlying t = some .string) (hv : Value.okWide P w r b t v) : Cell.okWide P w r b t v := by
  simpa only [Value.okWide, h] using hv
theorem agg_cells {fs : Array Field} {ts : List TypeId} (hs : P.underlying t = some (.struct fs)) (hts : P.cellTypes P.depth t = some ts) (hC : P.cellsOf t = ts.length) (hv : Value.okWide P w r b t v) :
    ∃ cs : List Value, v = .agg cs.toArray ∧ cs.length = ts.length ∧ ∀ (i : Nat) (u : TypeId) (x : Value), ts[i]? = some u → cs[i]? = some x → Cell.okWide P w r b u x := by
  simp only [Value.okWide, hs] at hv
  obtain ⟨cs, rfl, hsz, ts', hts', _, hall⟩ := hv
  rw [hts] at hts'
  cases hts'
  rw [hC] at hsz
  refine ⟨cs.toList, by simp, by simpa using hsz, fun i u x hu hx => ?_⟩
  have hi : i < ts.length := (List.getElem?_eq_some_iff.1 hu).1
  obtain ⟨u', hu', hc⟩ := hall i x (by simpa using hx)
  rw [Nat.mod_eq_of_lt hi, hu] at hu'
  cases hu'
  exact hc
theorem list2 {l : List Value} (h : l.length = 2) : ∃ a b, l = [a, b] := by
  match l, h with | [a, b], _ => exact ⟨a, b, rfl⟩
theorem list5 {l : List Value} (h : l.length = 5) : ∃ a b c d e, l = [a, b, c, d, e] := by
  match l, h with | [a, b, c, d, e], _ => exact ⟨a, b, c, d, e, rfl⟩
theorem list7 {l : List Value} (h : l.length = 7) : ∃ a b c d e f g, l = [a, b, c, d, e, f, g] := by
  match l, h with | [a, b, c, d, e, f, g], _ => exact ⟨a, b, c, d, e, f, g, rfl⟩
theorem list9 {l : List Value} (h : l.length = 9) : ∃ a b c d e f g i j, l = [a, b, c, d, e, f, g, i, j] := by
  match l, h with | [a, b, c, d, e, f, g, i, j], _ => exact ⟨a, b, c, d, e, f, g, i, j, rfl⟩
theorem list13 {l : List Value} (h : l.length = 13) : ∃ a b c d e f g i j k m n o, l = [a, b, c, d, e, f, g, i, j, k, m, n, o] := by
  match l, h with | [a, b, c, d, e, f, g, i, j, k, m, n, o], _ => exact ⟨a, b, c, d, e, f, g, i, j, k, m, n, o, rfl⟩
end
end Go.Proofs.YtamckbjckgpniaaDoor
