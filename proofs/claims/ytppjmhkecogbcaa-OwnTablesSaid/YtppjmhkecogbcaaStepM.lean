/- A round's own variable, a whole struct copied out of a row that came in, as a thing of Mem. -/
import Derived.Test.YtppjmhkecogbcaaDat
import Derived.Test.YtppjmhkecogbcaaQMix
namespace Go.Proofs.Ytppjmhkecogbcaa
open Go.RowKit
set_option linter.unusedVariables false

theorem MemX.boxed {E : Nat → Prop} {w0 w : World} {l : List Res} (hM : MemX E w0 w l) (C : Array Value) (t : TypeId) (cs : List Value) (h : C.size = cs.length) :
    MemX E w0 ((w.alloc (.cells C t)).setCells w.heap.size 0 cs) (l ++ [atR w.heap.size t cs]) := by
  have hb := Go.Proofs.Ytppjmhkecogbcaa.boxed w C t cs (by omega)
  have hA : At (w.alloc (.cells C t)) w.heap.size t C.toList := by
    have := At.new_ w t C.toList
    rwa [Array.toArray_toList] at this
  exact hM.push hb.1 (atR_stab _ _ _) (hA.fill (by rw [Array.length_toList]; exact h)) (fun g hg => by
    have e : w.heap.size = g := Option.some.inj hg
    subst e
    exact ⟨Nat.le_refl _, hb.2.2⟩)
theorem MemX.range {E : Nat → Prop} {w0 w : World} {l : List Res} {g : Nat} {t : TypeId} {cs : List Value} (hM : MemX E w0 w l) (k : Nat) (hk : l[k]? = some (atR g t cs)) : w.rangeAt g 0 cs := by
  intro j v hv
  rw [Nat.zero_add, hM.cells k hk j]
  exact hv
end Go.Proofs.Ytppjmhkecogbcaa
