/- route: laws of what a table says (plain). Written by my genrtw.py. -/
import Derived.Test.YtalfdbhpaonfjaaRtI
namespace Go.Proofs.Ytalfdbhpaonfjaa
open Go.RowKit Go.Lib
set_option linter.unusedVariables false
set_option linter.unusedSimpArgs false


theorem rows_kept {w w' : World} {A : Option Addr} {n : Nat} {ks : List Kd} {css : Nat → List Value} (h : Rows_ w A n ks css) (hb : Below w.heap.size w w') : Rows_ w' A n ks css :=
  ⟨fun i hi => by
    obtain ⟨b, off, e, hr⟩ := h.at_ i hi
    exact ⟨b, off, e, range_kept hr hb⟩, h.ok⟩
theorem front_hand {E : Nat → Prop} {w W : World} (A : List Res) {B : List Res} (h : MemX E w W (A ++ B)) : MemX (blkE B) W W B := (h.perm List.perm_append_comm).hand
theorem front_back {E : Nat → Prop} {w W W' : World} (A : List Res) {B B' : List Res} (h : MemX E w W (A ++ B)) (h' : MemX (blkE B) W W' B') : MemX E w W' (A ++ B') := ((h.perm List.perm_append_comm).back h').perm List.perm_append_comm
theorem last_front {E : Nat → Prop} {w W : World} {l : List Res} {A : Res} (h : MemX E w W (l ++ [A])) : MemX E w W (A :: l) := h.perm List.perm_append_comm
/-- what an address has nothing of is of no matter for it -/
theorem bst_apart {G G' : List Bool → Option Int} {p k a : Nat} (hp : okP p k) (ha : a < 2 ^ 32) (hno : hasB p k a = false) (x : Option Int) (h : ∀ q, G' q = if q = path p k then x else G q) : bst G' a 33 = bst G a 33 := by
  refine bst_congr (fun i hi => ?_) 33 (Nat.le_refl _)
  rw [h]
  rw [if_neg]
  intro e
  have hl := congrArg List.length e
  rw [path_len, path_len] at hl
  subst hl
  have := (has_path hp ha).2 e
  rw [hno] at this
  cases this
theorem add_apart {t t' : RT} {m m' p a : Nat} {n via e : Int} (h : AddR t m p n via e t' m') (ha : a < 2 ^ 32) (hno : hasB p n a = false) : bst t'.get a 33 = bst t.get a 33 := by
  rcases h with ⟨_, _, rfl, _⟩ | ⟨k, rfl, hok, ⟨_, _, rfl, _⟩ | ⟨_, _, _, rfl, _⟩ | ⟨_, _, _, _, hq⟩⟩
  · rfl
  · rfl
  · rfl
  · exact bst_apart hok ha hno _ hq


theorem bst_okP {G : List Bool → Option Int} {a k : Nat} {v : Int} (h : bst G a 33 = some (k, v)) : okP (num (path a k)) k ∧ path (num (path a k)) k = path a k := by
  have h1 := (bst_lt h).1
  have hl : (path a k).length ≤ 32 := by rw [path_len]; omega
  have h2 := num_okP hl
  have h3 := path_num (path a k) hl
  rw [path_len] at h2 h3
  exact ⟨h2, h3⟩
/-- the longest one is dropped: a shorter one is told, that has it, or none -/
theorem drop_best {t t' : RT} {m m' a k : Nat} {v e : Int} (ha : a < 2 ^ 32) (ho : bst t.get a 33 = some (k, v)) (h : DropR t m (num (path a k)) k e t' m') :
    e = 0 ∧ (bst t'.get a 33 = none ∨ ∃ j u, bst t'.get a 33 = some (j, u) ∧ j < k ∧ hasB ((num (path a j) : Nat) : Int) j ((num (path a k) : Nat) : Int) = true) := by
  obtain ⟨hok, hp⟩ := bst_okP ho
  have h1 := bst_lt ho
  rcases h with ⟨hc, _⟩ | ⟨k', hk, _, ⟨hg, _⟩ | ⟨_, he, _, _, hq⟩⟩
  · exact absurd (okP_chk hok) hc
  · obtain rfl : k = k' := by omega
    rw [hp, h1.2] at hg; cases hg
  · obtain rfl : k = k' := by omega
    refine ⟨he, ?_⟩
    rw [hp] at hq
    cases ho' : bst t'.get a 33 with
    | none => exact .inl rfl
    | some z =>
      obtain ⟨j, u⟩ := z
      right
      refine ⟨j, u, rfl, ?_, ?_⟩
      · have h2 := bst_lt ho'
        rw [hq] at h2
        have hjk : path a j ≠ path a k := fun e => by rw [if_pos e] at h2; cases h2.2
        rw [if_neg hjk] at h2
        rcases Nat.lt_trichotomy j k with h3 | h3 | h3
        · exact h3
        · rw [h3] at hjk; exact absurd rfl hjk
        · rw [bst_max ho j h3 (by omega)] at h2; cases h2.2
      · have h2 := bst_lt ho'
        have hjk : j < k := by
          rw [hq] at h2
          have hjk : path a j ≠ path a k := fun e => by rw [if_pos e] at h2; cases h2.2
          rw [if_neg hjk] at h2
          rcases Nat.lt_trichotomy j k with h3 | h3 | h3
          · exact h3
          · rw [h3] at hjk; exact absurd rfl hjk
          · rw [bst_max ho j h3 (by omega)] at h2; cases h2.2
        have hok2 := (bst_okP ho').1
        refine (has_path hok2 hok.2.1).2 ?_
        have h4 := (bst_okP ho').2
        rw [h4, ← path_take (Nat.le_of_lt hjk) (a := num (path a k)) , hp, path_take (Nat.le_of_lt hjk)]
theorem ok00 : okP 0 0 := ⟨by decide, by decide, by decide⟩
/-- all addresses have a way, or the table is full -/
theorem add_all {t t' t2 : RT} {m m' m2 a : Nat} {e e2 v : Int} (hd : DropR t m 0 0 e t' m') (ha : AddR t' m' 0 0 v e2 t2 m2) :
    (e2 = 0 ∧ ∃ z, bst t2.get a 33 = some z) ∨ (e2 = 9 ∧ m2 = 64) := by
  have hn : t'.get [] = none := by
    rcases hd with ⟨hc, _⟩ | ⟨k, hk, _, ⟨hg, _, rfl, _⟩ | ⟨_, _, _, _, hq⟩⟩
    · exact absurd (okP_chk ok00) hc
    · obtain rfl : k = 0 := by omega
      exact hg
    · obtain rfl : k = 0 := by omega
      rw [hq]; rfl
  rcases ha with ⟨hc, _⟩ | ⟨k, hk, _, ⟨hg, _⟩ | ⟨_, h64, he, _, hm⟩ | ⟨_, _, he, _, hq⟩⟩
  · exact absurd (okP_chk ok00) hc
  · obtain rfl : k = 0 := by omega
    rw [show path 0 0 = [] from rfl, hn] at hg; cases hg
  · exact .inr ⟨he, by omega⟩
  · obtain rfl : k = 0 := by omega
    refine .inl ⟨he, ?_⟩
    cases hb : bst t2.get a 33 with
    | some z => exact ⟨z, rfl⟩
    | none =>
      have := bst_none hb 0 (by omega)
      rw [hq] at this
      simp [path_zero] at this

end Go.Proofs.Ytalfdbhpaonfjaa
