/- A text's bytes in memory of one's own ('[]byte(s)'), read and written in place. -/
import Derived.Test.YtfpifahkpkjfgaaOwn
import Derived.Test.YtfpifahkpkjfgaaCodC
import Derived.Laws.CopyOwn
namespace Go.Proofs.Ytfpifahkpkjfgaa
open Go.RowKit
set_option linter.unusedVariables false

/-- byte k of a list of bytes -/
def lb (L : List UInt8) (k : Nat) : Int := ((L[k]?.getD 0).toNat : Int)
theorem lb_ok (L : List UInt8) : BOk (lb L) := fun k => by
  unfold lb; have := (L[k]?.getD 0).toNat_lt; omega
structure Buf (W : World) (g : Nat) (L : List UInt8) : Prop where
  lt : g < W.heap.size
  here : ∀ (k : Nat) (u : UInt8), L[k]? = some u → W.cell? ⟨g, k, none⟩ = some (.int .u8 (u.toNat : Int))
  free : ∀ k, k < L.length → W.frozen? ⟨g, k, none⟩ = false
def bufR (g : Nat) (L : List UInt8) : Res := ⟨some g, fun W => Buf W g L⟩
theorem bufR_stab (g : Nat) (L : List UInt8) : (bufR g L).Stab := fun w w' h hs hb => by
  have hg := hb g rfl
  exact ⟨Nat.lt_of_lt_of_le h.lt hs, fun k u hk => (World.cell?_of_block hg).trans (h.here k u hk), fun k hk => (World.frozen?_of_block hg).trans (h.free k hk)⟩
section
variable {E : Nat → Prop} {w W W' : World} {r : List Res} {g : Nat} {L : List UInt8}
theorem MemX.buf (h : MemX E w W r) (k : Nat) (hk : r[k]? = some (bufR g L)) : Buf W g L := h.get k hk
theorem Buf.bts (h : Buf W g L) : Bts W g L.length (lb L) := fun j hj => by
  unfold lb
  rw [List.getElem?_eq_getElem hj, Option.getD_some]
  exact h.here j _ (List.getElem?_eq_getElem hj)
theorem Buf.back (h : Buf W g L) : ∀ k (hk : k < L.length), W.cell? ((⟨g, 0, none⟩ : Addr).add k) = some (.int .u8 (L[k].toNat : Int)) := fun k hk => by
  rw [Addr.add_mid, Nat.zero_add]
  exact h.here k _ (List.getElem?_eq_getElem hk)
theorem Buf.set_ (h : Buf W g L) (k : Nat) (u : UInt8) (v : Int) (hv : v = (u.toNat : Int)) : Buf (W.setCell ⟨g, k, none⟩ (.int .u8 v)) g (L.set k u) := by
  subst hv
  refine ⟨by simpa [World.setCell] using h.lt, fun j x hj => ?_, fun j hj => by rw [World.frozen?_setCell]; exact h.free j (by simpa using hj)⟩
  by_cases e : k = j
  · subst e
    have hk : k < L.length := by have := (List.getElem?_eq_some_iff.1 hj).1; simpa using this
    rw [List.getElem?_set_self hk] at hj
    cases hj
    exact World.cell?_setCell_same _ _ _ (h.here k _ (List.getElem?_eq_getElem hk))
  · rw [List.getElem?_set_ne e] at hj
    rw [World.cell?_setCell_other _ _ _ _ (by intro x; injection x with _ x2 _; omega)]
    exact h.here j x hj
theorem MemX.bufPut {L' : List UInt8} (h : MemX E w W r) (k : Nat) (hk : r[k]? = some (bufR g L)) (hO : W.grownBy W' (some g)) (hB : Buf W' g L') : MemX E w W' (r.set k (bufR g L')) :=
  h.upd k hk hO (bufR_stab _ _) hB (fun j hj => ⟨.inl hj, (Option.some.inj (show some g = some j from hj)) ▸ hB.lt⟩)
end
theorem data_len' (s : ByteArray) : s.data.toList.length = s.size := by simp
/-- '[]byte(s)' -/
theorem wpList_bytes_mem {E : Nat → Prop} {ops : Array Oper} {rest : List Oper} {op : Oper} {a : Act} {w0 w : World} {Q : Exit → Act → World → Prop} {l : List Res} (hgd : op.guard = none) (x : Operand) (ho : op.op = .convert 9 104 x) (s : ByteArray) (hx : a.eval x = .string s) (hs : s.size ≤ 140737488355328) (hM : MemX E w0 w l)
    (h : ∀ g c W, s.size ≤ c → c ≤ 9223372036854775807 → MemX E w0 W (l ++ [bufR g s.data.toList]) → wpList Try.prog ops Q rest (a.put op.dst (.slice (some ⟨g, 0, none⟩) s.size c)) W) : wpList Try.prog ops Q (op :: rest) a w :=
  wpList_plain hgd fun K hK => by
    have hr := run_bytes_of_string (P := Try.prog) w 9 104 5 s Try.underlying9 Try.underlying104 Try.underlying5
    have hge := grownCap_ge w s.size 0 5
    have hle := grownCap_le_maxLen w s.size 0 5 (by simp only [maxLen]; omega)
    simp only [maxLen] at hle
    unfold Oper.wp execOp
    simp only [ho, hx, hr, Sem.run_bind, Sem.run_pure, Result.andThen_ok]
    refine hK _ _ (h w.heap.size _ _ hge hle ?_)
    generalize grownCap w s.size 0 5 = c at *
    have hlt : w.heap.size < (w.drew.alloc (.cells (bytesRow s c) 5 ((bytesRow s c).size, (bytesRow s c).size + 1))).heap.size := by simp
    refine hM.push (below_ca (Below.refl _ _).drew _) (bufR_stab _ _) ⟨hlt, fun k u hk => ?_, fun k hk => ?_⟩ (fun j hj => ?_)
    · obtain ⟨hk', e⟩ := List.getElem?_eq_some_iff.1 hk
      have hk2 : k < s.data.size := by simpa using hk'
      show (w.drew.alloc _).cell? ⟨w.drew.heap.size, k, none⟩ = _
      rw [World.cell?_alloc_mark, bytesRow_at s c k hk2, ← e]
      rfl
    · have hk2 : k < s.size := by simpa using hk
      have : s.size ≤ (bytesRow s c).size := by unfold bytesRow; simp
      show (w.drew.alloc _).frozen? ⟨w.drew.heap.size, k, none⟩ = _
      rw [World.frozen?_alloc_mark]
      simp; omega
    · have : w.heap.size = j := Option.some.inj (show some w.heap.size = some j from hj)
      subst this; exact ⟨Nat.le_refl _, hlt⟩
end Go.Proofs.Ytfpifahkpkjfgaa
