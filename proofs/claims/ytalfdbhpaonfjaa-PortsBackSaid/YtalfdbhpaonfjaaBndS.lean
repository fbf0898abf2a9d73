/- PortsBack: the plain law, Drop whatever the owner, and two rows handed to Eq. -/
import Derived.Test.YtalfdbhpaonfjaaBndQ
import Derived.Test.YtalfdbhpaonfjaaBndL
namespace Go.Proofs.Ytalfdbhpaonfjaa
open Go.RowKit Go.Lib
set_option linter.unusedVariables false
set_option linter.unusedSimpArgs false

theorem Drop_any (g : Nat) (v : Value) (l : List KBound) (o : Int) (w : World) (hM : PPre w w g v l v l) (hn : l.length ≤ 100000) :
    Calls Try.prog 22 #[.pointer (some ⟨g, 0, none⟩), .int .i64 o] w fun x w' => ∃ e v', x = .returned (.int .i64 e) ∧ PPre w w' g v l v' (pDrop l o) := by
  cases hp : pHas l o
  · refine (Drop_none g v l o w hM hn hp).mono ?_
    rintro x w' ⟨rfl, h⟩
    exact ⟨7, v, rfl, by rw [pHas_drop hp]; exact h⟩
  · refine (Drop_some g v l o w hM hn hp).mono ?_
    rintro x w' ⟨v', rfl, h⟩
    exact ⟨0, v', rfl, h⟩
section
variable {E : Nat → Prop} {w W W' : World} {x y z H N : Res}
theorem eq_perm : [x, y, z, H, N].Perm ([N, H] ++ [x, y, z]) :=
  (List.perm_append_comm (l₁ := [x, y, z]) (l₂ := [H, N])).trans (List.Perm.swap _ _ _)
theorem eq_hand (h : MemX E w W [x, y, z, H, N]) : MemX (blkE [N, H]) W W [N, H] := (h.perm eq_perm).hand
theorem eq_put (h : MemX E w W [x, y, z, H, N]) (h' : MemX (blkE [N, H]) W W' [N, H]) : MemX E w W' [x, y, z, H, N] := ((h.perm eq_perm).back h').perm eq_perm.symm
end
theorem pHas_append (l m : List KBound) (o : Int) : pHas (l ++ m) o = (pHas l o || pHas m o) := by unfold pHas; rw [List.any_append]
theorem pHas_dropped (l : List KBound) (o : Int) : pHas (pDrop l o) o = false := by
  unfold pHas
  refine List.any_eq_false.2 fun b hb => ?_
  simpa using pDrop_not l o b hb
theorem pDrop_append {l m : List KBound} {o : Int} (h : pHas l o = false) (hm : ∀ b ∈ m, b.ow = o) : pDrop (l ++ m) o = l := by
  have h1 := pHas_drop h
  unfold pDrop at *
  rw [List.filter_append, h1, List.filter_eq_nil_iff.2 (fun b hb => by simpa using hm b hb), List.append_nil]
theorem clash_self (b : KBound) : pClash b b = !(b.sh && decide (b.rp = 0)) := by
  unfold pClash pSame pShare
  cases b.sh <;> simp
theorem back_law {l : List KBound} {b : KBound} (hI : BInv l) (hno : pHas l b.ow = false) (he : pBindE l b = 0) :
    pBind l b = l ++ [b] ∧ ∃ (e2 : Int) (l3 : List KBound), pBindE (l ++ [b]) b = e2 ∧ pBind (l ++ [b]) b = l3 ∧ pHas l3 b.ow = true ∧ pDrop l3 b.ow = l ∧ l3.length ≤ 100000 ∧
      ((b.sh = false ∧ e2 = 15) ∨ (b.sh = true ∧ b.rp ≠ 0 ∧ e2 = 15) ∨ (b.sh = true ∧ b.rp = 0 ∧ l.length < 31 ∧ e2 = 0) ∨ (b.sh = true ∧ b.rp = 0 ∧ 31 ≤ l.length ∧ (e2 = 0 ∨ e2 = 9))) := by
  have hl := hI.len
  have h1 : pOk b = true ∧ pClashes l b = false ∧ l.length ≠ 32 := by
    unfold pBindE at he
    split at he
    · rename_i h1
      split at he
      · cases he
      · rename_i h2
        split at he
        · cases he
        · rename_i h3
          exact ⟨h1, by simpa using h2, h3⟩
    · cases he
  obtain ⟨h1, h2, h3⟩ := h1
  refine ⟨by unfold pBind; rw [if_pos ⟨h1, h2, h3⟩], _, _, rfl, rfl, ?_⟩
  have hcl : pClashes (l ++ [b]) b = !(b.sh && decide (b.rp = 0)) := by
    unfold pClashes at *
    rw [List.any_append, h2]
    simp [clash_self]
  have hb : pHas [b] b.ow = true := by simp [pHas]
  have hlen : (l ++ [b]).length = l.length + 1 := by simp
  have hsame : ∀ x ∈ [b], x.ow = b.ow := by simp
  have hsame2 : ∀ x ∈ [b] ++ [b], x.ow = b.ow := by simp
  by_cases hs : (b.sh && decide (b.rp = 0)) = true
  · have hs' := hs
    rw [Bool.and_eq_true, decide_eq_true_eq] at hs'
    rw [hs] at hcl
    by_cases h31 : l.length = 31
    · have hpb : pBind (l ++ [b]) b = l ++ [b] := by unfold pBind; rw [if_neg (by rw [hlen]; omega)]
      have hpe : pBindE (l ++ [b]) b = 9 := by unfold pBindE; rw [if_pos h1, hcl, if_neg (by simp), if_pos (by omega)]
      rw [hpb, hpe]
      exact ⟨by rw [pHas_append, hb]; simp, pDrop_append hno hsame, by rw [hlen]; omega, .inr (.inr (.inr ⟨hs'.1, hs'.2, by omega, .inr rfl⟩))⟩
    · have hpb : pBind (l ++ [b]) b = l ++ ([b] ++ [b]) := by unfold pBind; rw [if_pos ⟨h1, by rw [hcl]; rfl, by omega⟩, List.append_assoc]
      have hpe : pBindE (l ++ [b]) b = 0 := by unfold pBindE; rw [if_pos h1, hcl, if_neg (by simp), if_neg (by omega)]
      rw [hpb, hpe]
      exact ⟨by rw [pHas_append, pHas_append, hb]; simp, pDrop_append hno hsame2, by simp; omega, .inr (.inr (.inl ⟨hs'.1, hs'.2, by omega, rfl⟩))⟩
  · have hs2 : (b.sh && decide (b.rp = 0)) = false := by simpa using hs
    rw [hs2] at hcl
    have hpb : pBind (l ++ [b]) b = l ++ [b] := by unfold pBind; rw [if_neg (by rw [hcl]; simp)]
    have hpe : pBindE (l ++ [b]) b = 15 := by unfold pBindE; rw [if_pos h1, hcl, if_pos (by simp)]
    rw [hpb, hpe]
    refine ⟨by rw [pHas_append, hb]; simp, pDrop_append hno hsame, by rw [hlen]; omega, ?_⟩
    cases hsh : b.sh
    · exact .inl ⟨rfl, rfl⟩
    · rw [hsh] at hs2
      exact .inr (.inl ⟨rfl, by simpa using hs2, rfl⟩)
end Go.Proofs.Ytalfdbhpaonfjaa
