/- Slices of bytes in Mem. -/
import Derived.Test.YtfpifahkpkjfgaaWinS
import Derived.Test.YtfpifahkpkjfgaaQMix
import Derived.Test.YtfpifahkpkjfgaaSt
namespace Go.Proofs.Ytfpifahkpkjfgaa
open Go.RowKit
set_option linter.unusedVariables false

def ownR (base : Nat) (v : Value) (l : List Int) : Res := winR base 1 v l.length (l.map b8)
section
variable {E : Nat → Prop} {w W W' : World} {r : List Res} {base : Nat} {v v' : Value} {l l' : List Int}
theorem MemX.own (h : MemX E w W r) (k : Nat) (hk : r[k]? = some (ownR base v l)) : OwnB W base v l := h.win_ k hk
theorem MemX.ownPut (h : MemX E w W r) (k : Nat) (hk : r[k]? = some (ownR base v l)) (hV : OwnB W' base v' l') (hO : W.grownBy W' v.ownBlock) (hat : v'.ownBlock = v.ownBlock ∨ ∃ k, v'.ownBlock = some k ∧ W.heap.size ≤ k) : MemX E w W' (r.set k (ownR base v' l')) := h.winPut k hk hO hV hat
theorem MemX.ownNil (h : MemX E w W r) (base : Nat) : MemX E w W (r ++ [ownR base (.slice none 0 0) []]) := h.winNil base 1
/-- the same block, written in place -/
theorem MemX.ownSet {g off cap n : Nat} (h : MemX E w W r) (k : Nat) (hk : r[k]? = some (ownR base (.slice (some ⟨g, off, none⟩) n cap) l)) (hl : l.length = n) (hl' : l'.length = n) (hV : WinAt W' base 1 g off cap n (l'.map b8)) (hO : W.grownBy W' (some g)) :
    MemX E w W' (r.set k (ownR base (.slice (some ⟨g, off, none⟩) n cap) l')) :=
  h.ownPut k hk (by subst hl'; exact ⟨by simp, .inr ⟨g, off, cap, rfl, hV⟩⟩) hO (.inl rfl)
end
end Go.Proofs.Ytfpifahkpkjfgaa
