/- Bytes by numbers, as a string. -/
import Derived.Test.YtamckbjckgpniaaDoorWire
namespace Go.Proofs.YtamckbjckgpniaaDoor
open Go.RowKit
set_option linter.unusedVariables false

def byteL (l : List Int) : List UInt8 := l.map fun x => UInt8.ofNat (x % 256).toNat
def byteS (l : List Int) : ByteArray := ⟨(byteL l).toArray⟩
theorem byteL_len (l : List Int) : (byteL l).length = l.length := by simp [byteL]
theorem byteL_at (l : List Int) (k : Nat) (h : k < (byteL l).length) : (l.map b8)[k]? = some (.int .u8 ((byteL l)[k].toNat : Int)) := by
  have h' : k < l.length := by simpa [byteL_len] using h
  rw [List.getElem?_eq_getElem (by simpa using h')]
  simp only [List.getElem_map, byteL, b8]
  congr 2
  rw [UInt8.toNat_ofNat']
  omega
theorem own_back {w : World} {base : Nat} {l : List Int} {g off c : Nat} (h : WinAt w base 1 g off c l.length (l.map b8)) :
    ∀ k (hk : k < (byteL l).length), w.cell? ((⟨g, off, none⟩ : Addr).add k) = some (.int .u8 ((byteL l)[k].toNat : Int)) := fun k hk => by
  have hadd : (⟨g, off, none⟩ : Addr).add k = ⟨g, off + k, none⟩ := by unfold Addr.add; split <;> simp_all
  rw [hadd]
  exact h.here k _ (byteL_at l k hk)
theorem byteS_sz (l : List Int) : (byteS l).size = l.length := by
  show (byteL l).toArray.size = _
  rw [List.size_toArray, byteL_len]
theorem str_ext {a b : ByteArray} (h : a.data.toList = b.data.toList) : a = b := by
  cases a; cases b
  exact congrArg ByteArray.mk (Array.ext' h)
theorem byteS_toList (l : List Int) : (byteS l).data.toList = byteL l := rfl
theorem byteL_app (l m : List Int) : byteL (l ++ m) = byteL l ++ byteL m := List.map_append
/-- one element of a slice of one's own written -/
theorem WinAt.store {w : World} {base g off cap n : Nat} {cs : List Value} (h : WinAt w base 1 g off cap n cs) (hl : cs.length = n) (i : Nat) (hi : i < n) (v : Value) : WinAt (w.setCell ⟨g, off + i, none⟩ v) base 1 g off cap n (cs.set i v) := by
  refine ⟨h.ge, by simpa [World.setCell] using h.lt, h.le, h.mx, fun j u hj => ?_, fun j hj => ?_, fun j hj => by rw [World.frozen?_setCell]; exact h.soft j hj⟩
  · by_cases e : i = j
    · subst e
      rw [List.getElem?_set_self (by omega)] at hj
      cases hj
      obtain ⟨u0, hu0⟩ : ∃ u0, cs[i]? = some u0 := ⟨cs[i], List.getElem?_eq_getElem (by omega)⟩
      exact World.cell?_setCell_same _ _ _ (h.here i u0 hu0)
    · rw [List.getElem?_set_ne e] at hj
      rw [World.cell?_setCell_other _ _ _ _ (by intro x; injection x with _ x2 _; omega)]
      exact h.here j u hj
  · rw [World.cell?_setCell_other _ _ _ _ (by intro x; injection x with _ x2 _; omega), World.frozen?_setCell]
    exact h.spare j hj
theorem WinAt.ofOwns {w : World} {base e g n : Nat} {cs : List Value} (h : w.ownsRow base e 1 (.slice (some ⟨g, 0, none⟩) n n) n cs) : WinAt w base 1 g 0 n n cs := by
  have := (Win.of_owns h).2
  rcases this with ⟨h0, _⟩ | ⟨g', off, cap, hv, hW⟩
  · cases h0
  · cases hv; exact hW
end Go.Proofs.YtamckbjckgpniaaDoor
