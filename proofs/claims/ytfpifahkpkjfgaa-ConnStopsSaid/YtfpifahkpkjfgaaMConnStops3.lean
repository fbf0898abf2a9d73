/- What ConnStops needs, a part: Mem, Ty, QTail, QAlloc, QMix. -/
import Derived.Deep.MidRow
import Derived.StillTail
import Derived.Deep.Quiet
import Derived.Test.YtfpifahkpkjfgaaMConnStops2
namespace Go.Proofs.Ytfpifahkpkjfgaa
open Go.RowKit
set_option linter.unusedVariables false
theorem calls_b {P : Program} {f : FuncId} {args : Array Value} {w : World} {v : Value} (h : Calls P f args w fun e w' => e = .returned v ∧ w = w') : Calls P f args w fun e w' => e = .returned v ∧ Below w.heap.size w w' :=
 h.mono fun _ _ ⟨h1, h2⟩ => ⟨h1, h2 ▸ Below.refl _ _⟩
structure Res where
 blk : Option Nat
 P : World → Prop
def Res.Stab (r : Res) : Prop := ∀ w w' : World, r.P w → w.heap.size ≤ w'.heap.size → (∀ g, r.blk = some g → w'.heap[g]? = w.heap[g]?) → r.P w'
def atR (g : Nat) (t : TypeId) (cs : List Value) : Res := ⟨some g, fun W => At W g t cs⟩
def winR (base size : Nat) (v : Value) (n : Nat) (cs : List Value) : Res := ⟨v.ownBlock, fun W => Win W base size v n cs⟩
theorem atR_stab (g : Nat) (t : TypeId) (cs : List Value) : (atR g t cs).Stab := fun w w' h _ hb => (hb g rfl).trans h
theorem winR_stab (base size : Nat) (v : Value) (n : Nat) (cs : List Value) : (winR base size v n cs).Stab := fun w w' h hs hb => by
 refine ⟨h.1, ?_⟩
 rcases h.2 with h0 | ⟨g, off, cap, rfl, hW⟩
 ·exact .inl h0
 ·exact .inr ⟨g, off, cap, rfl, hW.move (Nat.lt_of_lt_of_le hW.lt hs) (hb g rfl)⟩
structure Fr (E : Nat → Prop) (w W : World) : Prop where
 os : W.os = w.os
 tape : W.tape = w.tape
 output : W.output = w.output
 size : w.heap.size ≤ W.heap.size
 block : ∀ k, k < w.heap.size → ¬ E k → W.heap[k]? = w.heap[k]?
def noE : Nat → Prop := fun _ => False
theorem Fr.refl (E : Nat → Prop) (w : World) : Fr E w w := ⟨rfl, rfl, rfl, Nat.le_refl _, fun _ _ _ => rfl⟩
theorem Fr.kept {E : Nat → Prop} {w W W' : World} (h : Fr E w W) (hb : Below W.heap.size W W') : Fr E w W' :=
 ⟨hb.os.trans h.os, hb.tape.trans h.tape, hb.output.trans h.output, Nat.le_trans h.size hb.size, fun k hk hn => (hb.block k (Nat.lt_of_lt_of_le hk h.size)).trans (h.block k hk hn)⟩
theorem Fr.grown {E : Nat → Prop} {w W W' : World} {row : Option Nat} (h : Fr E w W) (hO : W.grownBy W' row) (hr : ∀ k, row = some k → w.heap.size ≤ k ∨ E k) : Fr E w W' :=
 ⟨hO.os.trans h.os, hO.tape.trans h.tape, hO.output.trans h.output, Nat.le_trans h.size hO.size, fun k hk hn => (hO.block k (Nat.lt_of_lt_of_le hk h.size) (fun e => by
  rcases hr k e.symm with h1 | h1
  ·omega
  ·exact hn h1)).trans (h.block k hk hn)⟩
theorem Fr.below {w W : World} (h : Fr noE w W) : Below w.heap.size w W := ⟨h.os, h.tape, h.output, h.size, fun k hk => h.block k hk (fun e => e)⟩
theorem Fr.only {w W : World} {E : Nat → Prop} {g : Nat} (h : Fr E w W) (hE : ∀ k, E k → k = g) : w.grownBy W (some g) := ⟨h.os, h.tape, h.output, h.size, fun k hk hn => h.block k hk (fun e => hn (by rw [hE k e]))⟩
structure MemX (E : Nat → Prop) (w W : World) (l : List Res) : Prop where
 fr : Fr E w W
 p : ∀ r ∈ l, r.P W
 s : ∀ r ∈ l, r.Stab
 lo : ∀ r ∈ l, ∀ g, r.blk = some g → (w.heap.size ≤ g ∨ E g) ∧ g < W.heap.size
 ne : ∀ (i j : Nat), i ≠ j → ∀ (r q : Res), l[i]? = some r → l[j]? = some q → ∀ g, r.blk = some g → q.blk ≠ some g
abbrev Mem := MemX noE
section
variable {E : Nat → Prop} {w W W' : World} {l : List Res} {r r' : Res}
theorem MemX.b (h : MemX noE w W l) : Below w.heap.size w W := h.fr.below
theorem Mem.nil (w : World) : Mem w w [] := ⟨Fr.refl _ _, by simp, by simp, by simp, by intro i j _ r q h; simp at h⟩
theorem MemX.get (h : MemX E w W l) (k : Nat) (hk : l[k]? = some r) : r.P W := h.p r (List.mem_of_getElem? hk)
theorem MemX.at_ {g : Nat} {t : TypeId} {cs : List Value} (h : MemX E w W l) (k : Nat) (hk : l[k]? = some (atR g t cs)) : At W g t cs := h.get k hk
theorem MemX.win_ {base size : Nat} {v : Value} {n : Nat} {cs : List Value} (h : MemX E w W l) (k : Nat) (hk : l[k]? = some (winR base size v n cs)) : Win W base size v n cs := h.get k hk
theorem MemX.cells {g : Nat} {t : TypeId} {cs : List Value} (h : MemX E w W l) (k : Nat) (hk : l[k]? = some (atR g t cs)) : ∀ i, W.cell? ⟨g, i, none⟩ = cs[i]? := fun i => (h.at_ k hk).cell i
theorem MemX.free {g : Nat} {t : TypeId} {cs : List Value} (h : MemX E w W l) (k : Nat) (hk : l[k]? = some (atR g t cs)) : ∀ i, W.frozen? ⟨g, i, none⟩ = false := fun i => (h.at_ k hk).free i
theorem MemX.lt {g : Nat} {t : TypeId} {cs : List Value} (h : MemX E w W l) (k : Nat) (hk : l[k]? = some (atR g t cs)) : g < W.heap.size := (h.at_ k hk).lt
theorem MemX.kept (h : MemX E w W l) (hb : Below W.heap.size W W') : MemX E w W' l :=
 ⟨h.fr.kept hb, fun r hr => h.s r hr W W' (h.p r hr) hb.size (fun g hg => hb.block g (h.lo r hr g hg).2), h.s, fun r hr g hg => ⟨(h.lo r hr g hg).1, Nat.lt_of_lt_of_le (h.lo r hr g hg).2 hb.size⟩, h.ne⟩
theorem MemX.push (h : MemX E w W l) (hb : Below W.heap.size W W') (hs : r.Stab) (hp : r.P W') (hn : ∀ g, r.blk = some g → W.heap.size ≤ g ∧ g < W'.heap.size) : MemX E w W' (l ++ [r]) := by
 have hk := h.kept hb
 have key : ∀ q ∈ l, ∀ g, q.blk = some g → r.blk ≠ some g := fun q hq g hg e => by
  have h1 := (h.lo q hq g hg).2
  have h2 := (hn g e).1
  omega
 refine ⟨hk.fr, ?_, ?_, ?_, ?_⟩
 ·intro q hq
  rcases List.mem_append.1 hq with hq | hq
  ·exact hk.p q hq
  ·obtain rfl := List.mem_singleton.1 hq; exact hp
 ·intro q hq
  rcases List.mem_append.1 hq with hq | hq
  ·exact hk.s q hq
  ·obtain rfl := List.mem_singleton.1 hq; exact hs
 ·intro q hq g hg
  rcases List.mem_append.1 hq with hq | hq
  ·exact hk.lo q hq g hg
  ·obtain rfl := List.mem_singleton.1 hq
   exact ⟨.inl (Nat.le_trans h.fr.size (hn g hg).1), (hn g hg).2⟩
 ·intro i j hij a q hi hj g hg
  have e : ∀ (m : Nat) (x : Res), (l ++ [r])[m]? = some x → (l[m]? = some x ∧ m < l.length) ∨ (m = l.length ∧ x = r) := by
   intro m x hx
   by_cases hm : m < l.length
   ·rw [List.getElem?_append_left hm] at hx; exact .inl ⟨hx, hm⟩
   ·rw [List.getElem?_append_right (by omega)] at hx
    have hml : m - l.length = 0 := by
     by_cases h0 : m - l.length = 0
     ·exact h0
     ·obtain ⟨z, hz⟩ := Nat.exists_eq_succ_of_ne_zero h0
      rw [hz] at hx; simp at hx
    rw [hml] at hx
    simp at hx
    exact .inr ⟨by omega, hx.symm⟩
  rcases e i a hi with ⟨hi', _⟩ | ⟨hi', rfl⟩
  ·rcases e j q hj with ⟨hj', _⟩ | ⟨hj', rfl⟩
   ·exact h.ne i j hij a q hi' hj' g hg
   ·exact key a (List.mem_of_getElem? hi') g hg
  ·rcases e j q hj with ⟨hj', _⟩ | ⟨hj', rfl⟩
   ·intro e2; exact key q (List.mem_of_getElem? hj') g e2 hg
   ·omega
theorem MemX.upd (h : MemX E w W l) (k : Nat) (hk : l[k]? = some r) (hO : W.grownBy W' r.blk) (hs : r'.Stab) (hp : r'.P W') (hn : ∀ g, r'.blk = some g → (r.blk = some g ∨ W.heap.size ≤ g) ∧ g < W'.heap.size) : MemX E w W' (l.set k r') := by
 have hkl : k < l.length := (List.getElem?_eq_some_iff.1 hk).1
 have hrm := List.mem_of_getElem? hk
 have e : ∀ (m : Nat) (x : Res), (l.set k r')[m]? = some x → (m ≠ k ∧ l[m]? = some x) ∨ (m = k ∧ x = r') := by
  intro m x hx
  by_cases hm : k = m
  ·subst hm
   rw [List.getElem?_set_self hkl] at hx
   exact .inr ⟨rfl, (Option.some.inj hx).symm⟩
  ·rw [List.getElem?_set_ne hm] at hx; exact .inl ⟨fun e => hm e.symm, hx⟩
 have old : ∀ (m : Nat) (x : Res), m ≠ k → l[m]? = some x → ∀ g, x.blk = some g → W'.heap[g]? = W.heap[g]? := by
  intro m x hm hx g hg
  exact hO.block g (h.lo x (List.mem_of_getElem? hx) g hg).2 (fun e2 => h.ne m k hm x r hx hk g hg e2.symm)
 have pos : ∀ x ∈ l.set k r', ∃ m, (l.set k r')[m]? = some x := fun x hx => List.getElem?_of_mem hx
 refine ⟨h.fr.grown hO (fun j hj => (h.lo r hrm j hj).1), ?_, ?_, ?_, ?_⟩
 ·intro x hx
  obtain ⟨m, hm⟩ := pos x hx
  rcases e m x hm with ⟨h1, h2⟩ | ⟨h1, rfl⟩
  ·exact h.s x (List.mem_of_getElem? h2) W W' (h.p x (List.mem_of_getElem? h2)) hO.size (old m x h1 h2)
  ·exact hp
 ·intro x hx
  obtain ⟨m, hm⟩ := pos x hx
  rcases e m x hm with ⟨h1, h2⟩ | ⟨h1, rfl⟩
  ·exact h.s x (List.mem_of_getElem? h2)
  ·exact hs
 ·intro x hx g hg
  obtain ⟨m, hm⟩ := pos x hx
  rcases e m x hm with ⟨h1, h2⟩ | ⟨h1, rfl⟩
  ·have := h.lo x (List.mem_of_getElem? h2) g hg
   exact ⟨this.1, Nat.lt_of_lt_of_le this.2 hO.size⟩
  ·refine ⟨?_, (hn g hg).2⟩
   rcases (hn g hg).1 with h3 | h3
   ·exact (h.lo r hrm g h3).1
   ·exact .inl (Nat.le_trans h.fr.size h3)
 ·intro i j hij a q hi hj g hg
  rcases e i a hi with ⟨h1, h2⟩ | ⟨h1, rfl⟩
  ·rcases e j q hj with ⟨h3, h4⟩ | ⟨h3, rfl⟩
   ·exact h.ne i j hij a q h2 h4 g hg
   ·intro e2
    have hlo := (h.lo a (List.mem_of_getElem? h2) g hg).2
    rcases (hn g e2).1 with h5 | h5
    ·exact h.ne i k h1 a r h2 hk g hg h5
    ·omega
  ·rcases e j q hj with ⟨h3, h4⟩ | ⟨h3, rfl⟩
   ·intro e2
    have hlo := (h.lo q (List.mem_of_getElem? h4) g e2).2
    rcases (hn g hg).1 with h5 | h5
    ·exact h.ne k j (fun x => h3 x.symm) r q hk h4 g h5 e2
    ·omega
   ·omega
theorem MemX.splice2 {E' : Nat → Prop} {A B A' B' : Res} {m : List Res} (h : MemX E w W l) (i j : Nat) (hij : i ≠ j) (hi : l[i]? = some A) (hj : l[j]? = some B) (hE : ∀ g, E' g → A.blk = some g ∨ B.blk = some g)
  (h' : MemX E' W W' (A' :: B' :: m)) : MemX E w W' ((l.set i A').set j B') := by
 have hil : i < l.length := (List.getElem?_eq_some_iff.1 hi).1
 have hjl : j < l.length := (List.getElem?_eq_some_iff.1 hj).1
 have hAm := List.mem_of_getElem? hi
 have hBm := List.mem_of_getElem? hj
 have e : ∀ (n : Nat) (x : Res), ((l.set i A').set j B')[n]? = some x → (n ≠ i ∧ n ≠ j ∧ l[n]? = some x) ∨ (n = i ∧ x = A') ∨ (n = j ∧ x = B') := by
  intro n x hx
  by_cases hn : j = n
  ·subst hn
   rw [List.getElem?_set_self (by simpa using hjl)] at hx
   exact .inr (.inr ⟨rfl, (Option.some.inj hx).symm⟩)
  ·rw [List.getElem?_set_ne hn] at hx
   by_cases hn2 : i = n
   ·subst hn2
    rw [List.getElem?_set_self hil] at hx
    exact .inr (.inl ⟨rfl, (Option.some.inj hx).symm⟩)
   ·rw [List.getElem?_set_ne hn2] at hx
    exact .inl ⟨fun e => hn2 e.symm, fun e => hn e.symm, hx⟩
 have hnE : ∀ (n : Nat) (x : Res), n ≠ i → n ≠ j → l[n]? = some x → ∀ g, x.blk = some g → ¬ E' g := fun n x h1 h2 hx g hg hE' => by
  rcases hE g hE' with h3 | h3
  ·exact h.ne n i h1 x A hx hi g hg h3
  ·exact h.ne n j h2 x B hx hj g hg h3
 have old : ∀ (n : Nat) (x : Res), n ≠ i → n ≠ j → l[n]? = some x → ∀ g, x.blk = some g → W'.heap[g]? = W.heap[g]? := fun n x h1 h2 hx g hg =>
  h'.fr.block g (h.lo x (List.mem_of_getElem? hx) g hg).2 (hnE n x h1 h2 hx g hg)
 have hloE : ∀ g, E' g → w.heap.size ≤ g ∨ E g := fun g hg => by
  rcases hE g hg with h3 | h3
  ·exact (h.lo A hAm g h3).1
  ·exact (h.lo B hBm g h3).1
 have loN : ∀ x, x = A' ∨ x = B' → ∀ g, x.blk = some g → (W.heap.size ≤ g ∨ E' g) ∧ g < W'.heap.size := fun x hx g hg => h'.lo x (by rcases hx with rfl | rfl <;> simp) g hg
 have apart : ∀ (n : Nat) (x y : Res), n ≠ i → n ≠ j → l[n]? = some x → (y = A' ∨ y = B') → ∀ g, x.blk = some g → y.blk ≠ some g := fun n x y h1 h2 hx hy g hg hyg => by
  rcases (loN y hy g hyg).1 with h3 | h3
  ·have := (h.lo x (List.mem_of_getElem? hx) g hg).2; omega
  ·exact hnE n x h1 h2 hx g hg h3
 have pos : ∀ x ∈ (l.set i A').set j B', ∃ n, ((l.set i A').set j B')[n]? = some x := fun x hx => List.getElem?_of_mem hx
 refine ⟨⟨h'.fr.os.trans h.fr.os, h'.fr.tape.trans h.fr.tape, h'.fr.output.trans h.fr.output, Nat.le_trans h.fr.size h'.fr.size, fun k hk hn => (h'.fr.block k (Nat.lt_of_lt_of_le hk h.fr.size) (fun e2 => by
   rcases hloE k e2 with h3 | h3
   ·omega
   ·exact hn h3)).trans (h.fr.block k hk hn)⟩, ?_, ?_, ?_, ?_⟩
 ·intro x hx
  obtain ⟨n, hn⟩ := pos x hx
  rcases e n x hn with ⟨h1, h2, h3⟩ | ⟨h1, rfl⟩ | ⟨h1, rfl⟩
  ·exact h.s x (List.mem_of_getElem? h3) W W' (h.p x (List.mem_of_getElem? h3)) h'.fr.size (old n x h1 h2 h3)
  ·exact h'.p _ (by simp)
  ·exact h'.p _ (by simp)
 ·intro x hx
  obtain ⟨n, hn⟩ := pos x hx
  rcases e n x hn with ⟨h1, h2, h3⟩ | ⟨h1, rfl⟩ | ⟨h1, rfl⟩
  ·exact h.s x (List.mem_of_getElem? h3)
  ·exact h'.s _ (by simp)
  ·exact h'.s _ (by simp)
 ·intro x hx g hg
  obtain ⟨n, hn⟩ := pos x hx
  have new : x = A' ∨ x = B' → (w.heap.size ≤ g ∨ E g) ∧ g < W'.heap.size := fun hx => by
   have h3 := loN x hx g hg
   refine ⟨?_, h3.2⟩
   rcases h3.1 with h4 | h4
   ·exact .inl (Nat.le_trans h.fr.size h4)
   ·exact hloE g h4
  rcases e n x hn with ⟨h1, h2, h3⟩ | ⟨h1, rfl⟩ | ⟨h1, rfl⟩
  ·have := h.lo x (List.mem_of_getElem? h3) g hg
   exact ⟨this.1, Nat.lt_of_lt_of_le this.2 h'.fr.size⟩
  ·exact new (.inl rfl)
  ·exact new (.inr rfl)
 ·intro a c hac x y hx hy g hg
  rcases e a x hx with ⟨h1, h2, h3⟩ | ⟨h1, rfl⟩ | ⟨h1, rfl⟩
  ·rcases e c y hy with ⟨k1, k2, k3⟩ | ⟨k1, rfl⟩ | ⟨k1, rfl⟩
   ·exact h.ne a c hac x y h3 k3 g hg
   ·exact apart a x _ h1 h2 h3 (.inl rfl) g hg
   ·exact apart a x _ h1 h2 h3 (.inr rfl) g hg
  ·rcases e c y hy with ⟨k1, k2, k3⟩ | ⟨k1, rfl⟩ | ⟨k1, rfl⟩
   ·exact fun e2 => apart c y _ k1 k2 k3 (.inl rfl) g e2 hg
   ·omega
   ·exact h'.ne 0 1 (by omega) _ _ rfl rfl g hg
  ·rcases e c y hy with ⟨k1, k2, k3⟩ | ⟨k1, rfl⟩ | ⟨k1, rfl⟩
   ·exact fun e2 => apart c y _ k1 k2 k3 (.inr rfl) g e2 hg
   ·exact h'.ne 1 0 (by omega) _ _ rfl rfl g hg
   ·omega
theorem MemX.conv {l' : List Res} (h : MemX E w W l) (e : l = l') : MemX E w W l' := e ▸ h
theorem MemX.take_ (h : MemX E w W l) (n : Nat) : MemX E w W (l.take n) :=
 ⟨h.fr, fun r hr => h.p r (List.mem_of_mem_take hr), fun r hr => h.s r (List.mem_of_mem_take hr), fun r hr => h.lo r (List.mem_of_mem_take hr), fun i j hij r q hi hj => by
  rw [List.getElem?_take] at hi hj
  split at hi
  ·split at hj
   ·exact h.ne i j hij r q hi hj
   ·cases hj
  ·cases hi⟩
theorem MemX.atPut {g : Nat} {t : TypeId} {cs cs' : List Value} (h : MemX E w W l) (k : Nat) (hk : l[k]? = some (atR g t cs)) (hO : W.grownBy W' (some g)) (hA : At W' g t cs') : MemX E w W' (l.set k (atR g t cs')) :=
 h.upd k hk hO (atR_stab _ _ _) hA (fun j hj => ⟨.inl hj, (Option.some.inj (show some g = some j from hj)) ▸ hA.lt⟩)
theorem MemX.winPut {base size : Nat} {v v' : Value} {n n' : Nat} {cs cs' : List Value} (h : MemX E w W l) (k : Nat) (hk : l[k]? = some (winR base size v n cs)) (hO : W.grownBy W' v.ownBlock) (hA : Win W' base size v' n' cs')
  (hat : v'.ownBlock = v.ownBlock ∨ ∃ k, v'.ownBlock = some k ∧ W.heap.size ≤ k) : MemX E w W' (l.set k (winR base size v' n' cs')) :=
 h.upd k hk hO (winR_stab _ _ _ _ _) hA (fun j hj => ⟨by
  have hj' : v'.ownBlock = some j := hj
  rcases hat with e | ⟨m, e, hm⟩
  ·left; show v.ownBlock = some j; rw [← e]; exact hj'
  ·right; rw [e] at hj'; cases hj'; exact hm, (hA.lt j hj).2⟩)
theorem MemX.winNil (h : MemX E w W l) (base size : Nat) : MemX E w W (l ++ [winR base size (.slice none 0 0) 0 []]) :=
 h.push (Below.refl _ _) (winR_stab _ _ _ _ _) (Win.nil _ _ _) (fun g hg => by cases hg)
theorem MemX.atNew (h : MemX E w W l) (t : TypeId) (cs : List Value) : MemX E w (W.alloc (.cells cs.toArray t)) (l ++ [atR W.heap.size t cs]) :=
 h.push (below_ca (Below.refl _ _) _) (atR_stab _ _ _) (At.new_ W t cs) (fun g hg => by
  have : W.heap.size = g := by simpa [atR] using hg
  subst this; exact ⟨Nat.le_refl _, by simp⟩)
end
section
variable {P : Program} {ops : Array Oper} {rest : List Oper} {a : Act} {w : World} {Q : Exit → Act → World → Prop} {d : Option Tmp} {ty T R : TypeId} {ps : String} {af : Array Edge} {g : Option (Nat × Bool)} {x y : Operand}
theorem at_load_ (h : wpList P ops Q ({ dst := d, op := .load T x, type := ty, pos := ps, after := af, guard := g } :: rest) a w) : wpList P ops Q ({ dst := d, op := .load T x, type := ty, pos := ps, after := af, guard := g } :: rest) a w := h
theorem at_wanted_ {op : Oper} (_hg : Region.wanted op (yielded ops a.tmps) = true) (h : wpList P ops Q (op :: rest) a w) : wpList P ops Q (op :: rest) a w := h
theorem at_store_ (h : wpList P ops Q ({ dst := d, op := .store T x y, type := ty, pos := ps, after := af, guard := g } :: rest) a w) : wpList P ops Q ({ dst := d, op := .store T x y, type := ty, pos := ps, after := af, guard := g } :: rest) a w := h
theorem at_box_ (h : wpList P ops Q ({ dst := d, op := .box T x, type := ty, pos := ps, after := af, guard := g } :: rest) a w) : wpList P ops Q ({ dst := d, op := .box T x, type := ty, pos := ps, after := af, guard := g } :: rest) a w := h
theorem at_alloc_ (h : wpList P ops Q ({ dst := d, op := .alloc T, type := ty, pos := ps, after := af, guard := g } :: rest) a w) : wpList P ops Q ({ dst := d, op := .alloc T, type := ty, pos := ps, after := af, guard := g } :: rest) a w := h
theorem at_ne_ (h : wpList P ops Q ({ dst := d, op := .binOp .neq T x y R, type := ty, pos := ps, after := af, guard := g } :: rest) a w) : wpList P ops Q ({ dst := d, op := .binOp .neq T x y R, type := ty, pos := ps, after := af, guard := g } :: rest) a w := h
end
section
variable {E : Nat → Prop} {P : Program} {ops : Array Oper} {rest : List Oper} {op : Oper} {a : Act} {w0 w : World} {Q : Exit → Act → World → Prop} {l : List Res}
theorem wpList_box_mem (hgd : op.guard = none) (T : TypeId) (x : Operand) (ho : op.op = .box T x) (cs : List Value) (hx : (a.eval x).cells = cs.toArray) (hM : MemX E w0 w l)
  (h : ∀ g W, MemX E w0 W (l ++ [atR g T cs]) → wpList P ops Q rest (a.put op.dst (.pointer (some ⟨g, 0, none⟩))) W) : wpList P ops Q (op :: rest) a w :=
 wpList_plain hgd fun K hK => by
  unfold Oper.wp execOp
  simp only [ho, Instr.box, newVar, newRow, hx, Sem.run_bind, Sem.run_pure, Result.andThen_ok, run_newObj_alloc]
  exact hK _ _ (h _ _ (hM.atNew T cs))
theorem wpList_alloc_mem (hgd : op.guard = none) (T : TypeId) (ho : op.op = .alloc T) (z : Value) (hz : ∀ W, (zeroValue T).run P W = .ok z W) (cs : List Value) (hx : z.cells = cs.toArray) (hM : MemX E w0 w l)
  (h : ∀ g W, MemX E w0 W (l ++ [atR g T cs]) → wpList P ops Q rest (a.put op.dst (.pointer (some ⟨g, 0, none⟩))) W) : wpList P ops Q (op :: rest) a w :=
 wpList_plain hgd fun K hK => by
  unfold Oper.wp execOp
  simp only [ho, Instr.alloc, newVar, newRow, hz, hx, Sem.run_bind, Sem.run_pure, Result.andThen_ok, run_newObj_alloc]
  exact hK _ _ (h _ _ (hM.atNew T cs))
theorem wpList_load_mem (hgd : op.guard = none) (T : TypeId) (x : Operand) (ho : op.op = .load T x) (k : Nat) (g : Nat) (t : TypeId) (cs : List Value) (hM : MemX E w0 w l) (hk : l[k]? = some (atR g t cs)) (hx : a.eval x = .pointer (some ⟨g, 0, none⟩))
  (d : TypeDesc) (hu : P.underlying T = some d) (hd : d.isRow = true) (hi : (P.info? T).map (·.size) = some cs.length)
  (h : wpList P ops Q rest (a.put op.dst (.agg cs.toArray)) w) : wpList P ops Q (op :: rest) a w :=
 wpList_load_mid hgd T x ho g 0 hx cs d (fun j u hj => by rw [Nat.zero_add, (hM.at_ k hk).cell, hj]) hu hd hi h
theorem wpList_loadg_mem (hgd : Region.wanted op (yielded ops a.tmps) = true) (T : TypeId) (x : Operand) (ho : op.op = .load T x) (k : Nat) (g : Nat) (t : TypeId) (cs : List Value) (hM : MemX E w0 w l) (hk : l[k]? = some (atR g t cs)) (hx : a.eval x = .pointer (some ⟨g, 0, none⟩))
  (d : TypeDesc) (hu : P.underlying T = some d) (hd : d.isRow = true) (hi : (P.info? T).map (·.size) = some cs.length)
  (h : wpList P ops Q rest (a.put op.dst (.agg cs.toArray)) w) : wpList P ops Q (op :: rest) a w :=
 wpList_step fun K hK => by
  rw [if_pos hgd]
  exact wp_load_mid T x ho g 0 hx cs d (fun j u hj => by rw [Nat.zero_add, (hM.at_ k hk).cell, hj]) hu hd hi (hK _ _ h)
theorem wpList_store_mem (hgd : op.guard = none) (T : TypeId) (x y : Operand) (ho : op.op = .store T x y) (k : Nat) (g : Nat) (t : TypeId) (cs cs' : List Value) (hM : MemX E w0 w l) (hk : l[k]? = some (atR g t cs)) (hx : a.eval x = .pointer (some ⟨g, 0, none⟩))
    (hy : a.eval y = .agg cs'.toArray) (hl : cs'.length = cs.length) (hi : (P.info? T).map (·.size) = some cs'.length) (h1 : cs'.all (·.oneCell') = true)
    (h : ∀ W, MemX E w0 W (l.set k (atR g t cs')) → wpList P ops Q rest (a.put op.dst undef) W) : wpList P ops Q (op :: rest) a w := by
  have hA := hM.at_ k hk
  have ht : w.there g 0 cs'.toArray.size := fun j hj => by
    rw [List.size_toArray, hl] at hj
    exact ⟨by rw [Nat.zero_add, hA.cell, List.getElem?_eq_getElem hj]; rfl, hA.free _⟩
  refine wpList_store_mid hgd T x y ho g 0 cs'.toArray hx hy ht (by rw [List.size_toArray]; exact hi) (all_oneCell_toArray (fun v hv => List.all_eq_true.1 h1 v hv)) (h _ ?_)
  refine hM.atPut k hk (by simpa using setCells_grownBy g cs' 0 w) ?_
  have hblk : ∀ (vs : List Value) (o : Nat) (X : World) (c : List Value), At X g t c → ∃ c', At (X.setCells g o vs) g t c' ∧ c'.length = c.length := by
    intro vs
    induction vs with
    | nil => intro o X c hc; exact ⟨c, hc, rfl⟩
    | cons v r ih =>
      intro o X c hc
      obtain ⟨c', h1, h2⟩ := ih (o + 1) _ _ (hc.set_ o v)
      exact ⟨c', h1, by rw [h2, List.length_set]⟩
  obtain ⟨c', h2, h3⟩ := hblk cs' 0 w cs hA
  have e : c' = cs' := by
    refine List.ext_getElem (by omega) fun j hj hj' => ?_
    have a1 := h2.cell j
    have a2 := World.rangeAt_setCells_same w g 0 cs' (by simpa using ht) j cs'[j] (by simp)
    rw [Nat.zero_add, a1, List.getElem?_eq_getElem hj] at a2
    exact Option.some.inj a2
  rw [e] at h2
  simpa using h2
end
end Go.Proofs.Ytfpifahkpkjfgaa
namespace Go.Proofs.Ytfpifahkpkjfgaa
set_option linter.unusedVariables false
def zSeg : List Value := [.int .u32 0, .int .i64 0, .int .u32 0, .int .i64 0, .int .u32 0, .int .u32 0, .bool false, .bool false, .bool false, .bool false, .int .i64 0, .int .i64 0, .string ⟨#[]⟩]
theorem sz_Seg : (Try.prog.info? 33).map (·.size) = some 13 := by kernel_rfl
theorem zv_Seg : ∀ W : World, (zeroValue 33).run Try.prog W = .ok (.agg zSeg.toArray) W := fun _ => by kernel_rfl
theorem sz_End : (Try.prog.info? 29).map (·.size) = some 2 := by kernel_rfl
def zPiece : List Value := [.int .i64 0, .bool false, .bool false, .string ⟨#[]⟩]
theorem sz_Piece : (Try.prog.info? 87).map (·.size) = some 4 := by kernel_rfl
theorem zv_Piece : ∀ W : World, (zeroValue 87).run Try.prog W = .ok (.agg zPiece.toArray) W := fun _ => by kernel_rfl
open Go Go.RowKit
section
variable {P : Program} {ops : Array Oper} {md : Region.Mode} {C : World → Prop}
def headQ (P : Program) (md : Region.Mode) (ops : Array Oper) (C : World → Prop) (n : Nat) (L : Array Bool → Act → Prop) : Nat → Array Bool → Act → Prop
 | 0 => L
 | f + 1 => fun done a => Region.ready md ops done ≠ [] ∧ ∀ i, i ∈ Region.ready md ops done → i < n ∧ qOp P ops C i (headQ P md ops C n L f (done.setIfInBounds i true)) a
theorem headQ_any {n g : Nat} {L : Array Bool → Act → Prop} {Q : Exit → Act → World → Prop} (h : ∀ done a w, C w → L done a → wpAny P md ops Q g done a w) (f : Nat) :
    ∀ done a w, C w → headQ P md ops C n L f done a → wpAny P md ops Q (f + g) done a w := by
  induction f with
  | zero => intro done a w hw hh; rw [Nat.zero_add]; exact h done a w hw hh
  | succ f ih =>
    intro done a w hw hh
    have e : f + 1 + g = (f + g) + 1 := by omega
    rw [e]
    constructor
    · intro h0; exact absurd h0 hh.1
    · intro i hi; exact wpOp_of_qOp hw (fun a' w' hw' k => ih _ a' w' hw' k) (hh.2 i hi).2
def FreeOf (md : Region.Mode) (ops : Array Oper) (i : Nat) (oi : Oper) (done : Array Bool) : Prop :=
 ∀ j oj, ops[j]? = some oj → j ≠ i → done.getD j true = false → (∀ e ∈ oj.after, Region.binds md e = true → e.on ≠ i) → oi.apart ops oj = true
theorem FreeOf.more {i j : Nat} {oi : Oper} {done : Array Bool} (h : FreeOf md ops i oi done) (hj : done.getD j true = false) : FreeOf md ops i oi (done.setIfInBounds j true) := by
 intro k ok hk hki hun hno
 refine h k ok hk hki ?_ hno
 by_cases e : j = k
 ·rw [← e]; exact hj
 ·rwa [getD_set_ne true e] at hun
theorem headQ_swap {n i : Nat} {oi : Oper} {v : Value} {L : Array Bool → Act → Prop} (hi : ops[i]? = some oi) (hsel : ∀ (j : Nat) (o : Oper) cs b, ops[j]? = some o → o.op ≠ .select cs b)
    (hs : Region.sinkB md ops n = true) (hc : Region.chainB md ops n = true) (hn : n < ops.size) (hin : i < n) (hL : ∀ done a, L done a → ∀ j, j ∈ Region.ready md ops done → n ≤ j) (f : Nat) :
    ∀ done a, HeadInv md ops n done → FreeOf md ops i oi done → i ∈ Region.ready md ops done → YieldsIn P ops C oi v a →
      headQ P md ops C n L f (done.setIfInBounds i true) (a.put oi.dst v) → headQ P md ops C n L (f + 1) done a := by
  have low : ∀ done, HeadInv md ops n done → i ∈ Region.ready md ops done → ∀ j, j ∈ Region.ready md ops done → j < n := by
    intro done inv hr j hj
    by_cases h : j < n
    · exact h
    · exact absurd hj (tail_waits hs hc hn inv _ i rfl hin (mem_ready.1 hr).1 j (by omega))
  induction f with
  | zero =>
    intro done a inv hf hr hy hh
    refine ⟨fun h => (by rw [h] at hr; cases hr), fun j hj => ⟨low done inv hr j hj, ?_⟩⟩
    by_cases e : j = i
    · rw [e]; exact hy.qOp hi hh
    · exact absurd (hL _ _ hh j (ready_mono hj e)) (by have := low done inv hr j hj; omega)
  | succ f ih =>
    intro done a inv hf hr hy hh
    refine ⟨fun h => (by rw [h] at hr; cases hr), fun j hj => ⟨low done inv hr j hj, ?_⟩⟩
    by_cases e : j = i
    · rw [e]; exact hy.qOp hi hh
    · obtain ⟨hun, oj, hoj, hall⟩ := mem_ready.1 hj
      have hnot : ∀ x ∈ oj.after, Region.binds md x = true → x.on ≠ i := by
        intro x hx hb hxi
        have h1 := hall x hx hb
        rw [hxi, getD_both (mem_ready.1 hr).1] at h1
        cases h1
      have hap := hf j oj hoj e hun hnot
      have hq := qOp_put (C := C) hoj hap (fun cs b => hsel i oi cs b hi) (fun cs b => hsel j oj cs b hoj) hy (hh.2 j (ready_mono hj e)).2
      refine qOp_mono (fun a' h3 => ?_) hq
      have hswap := h3.2
      rw [Array.setIfInBounds_comm _ _ (fun x => e x.symm)] at hswap
      exact ih _ a' (inv.set hj (low done inv hr j hj)) (hf.more hun) (ready_mono hr (fun x => e x.symm)) h3.1 hswap
theorem headQ_lex {n g : Nat} {Lq : Act → Prop} (hsel : Region.noSelect ops = true) (hs : Region.sinkB md ops n = true) (hc : Region.chainB md ops n = true) (hn : n < ops.size) (l : List Oper) :
    ∀ (k : Nat) (done : Array Bool) (a : Act), (∀ j, j < l.length → l[j]? = ops[k + j]?) → k + l.length = n → HeadInv md ops n done →
    Region.lexHead md ops g l.length k done = true → wpQuiet P ops C Lq l a → headQ P md ops C n (fun d a' => Region.seqB md ops g n d = true ∧ Lq a') l.length done a := by
  induction l with
  | nil =>
    intro k done a _ hk _ hB h
    obtain rfl : k = n := by simpa using hk
    exact ⟨by simpa [Region.lexHead] using hB, h⟩
  | cons o l ih =>
    intro k done a hl hk inv hB h
    have h0 : ops[k]? = some o := by have := hl 0 (by simp); simpa using this.symm
    simp only [List.length_cons, Region.lexHead, Bool.and_eq_true] at hB
    have hkn : k < n := by simp only [List.length_cons] at hk; omega
    have hr : k ∈ Region.ready md ops done := by simpa using hB.1.1
    have hq : qOp P ops C k (wpQuiet P ops C Lq l) a := by unfold qOp; simp only [h0]; exact h
    obtain ⟨v, hy, hK⟩ := yieldsIn_of_qOp h0 hq
    refine headQ_swap h0 (Region.noSelect_spec hsel) hs hc hn hkn (fun d a' hd => seqB_ready hd.1) l.length done a inv (Region.free_spec h0 hB.1.2) hr hy ?_
    refine ih (k + 1) _ _ (fun j hj => ?_) (by simp only [List.length_cons] at hk; omega) (inv.set hr hkn) hB.2 hK
    have := hl (j + 1) (by simp only [List.length_cons]; omega)
    rw [show k + 1 + j = k + (j + 1) by omega]
    simpa using this
theorem wp_region_quiet_tail {id : Nat} {Q : Exit → Act → World → Prop} {a : Act} {w : World} {l : List Oper} (n : Nat) (hm : P.follows .mixedOrders = true) (hB : Region.lexTailB .any l.toArray n = true)
  (hC : C { w with drawn := w.drawn + 1 }) (h : wpQuiet P l.toArray C (fun a' => ∀ w', C w' → wpList P l.toArray Q (l.drop n) a' w') (l.take n) a) : (Code.region id l.toArray true).wp P Q a w := by
 simp only [Region.lexTailB, Bool.and_eq_true, decide_eq_true_eq] at hB
 obtain ⟨⟨⟨⟨hsel, hn⟩, hs⟩, hc⟩, hlex⟩ := hB
 have hnl : n < l.length := by simpa using hn
 have hlen : (l.take n).length = n := by rw [List.length_take]; omega
 have hrest : (l.drop n).length = l.toArray.size - n := by simp
 have inv : HeadInv .any l.toArray n (Array.replicate l.toArray.size false) := by
  refine ⟨by simp, ?_, fun t _ ht => getD_in (by simpa using ht) (getD_replicate_false _ _)⟩
  intro j oj _ hl
  rw [getD_replicate_false] at hl
  cases hl
 refine wp_region_any hm ?_
 have hh := headQ_lex (C := C) (md := .any) (g := l.toArray.size - n) hsel hs hc hn (l.take n) 0 _ a (fun j hj => by
  rw [hlen] at hj
  simp [hj]) (by simpa using hlen) inv (by rw [hlen]; exact hlex) h
 rw [hlen] at hh
 have := headQ_any (Q := Q) (g := l.toArray.size - n) (fun d a' w' hw' hL => by
  have := wpAny_of_seq (md := .any) (Q' := Q) (l.drop n) n d a' w' (fun j => by simp [List.getElem?_drop]) (by rw [hrest]; exact hL.1) (hL.2 w' hw')
  rwa [hrest] at this) n _ _ _ hC hh
 rw [show n + (l.toArray.size - n) = l.toArray.size by omega] at this
 exact this
end
theorem wp_region_later_tail {P : Program} {id : Nat} {Q : Exit → Act → World → Prop} {a : Act} {w : World} {l : List Oper} (n : Nat) (hm : P.follows .mixedOrders = true) (hB : Region.lexTailB .any l.toArray n = true)
  (h : (∀ (u : Later w) (b o : Nat), b < w.heap.size → u.now.cell? ⟨b, o, none⟩ = w.cell? ⟨b, o, none⟩) →
   wpQuiet P l.toArray (fun w' => ∃ u : Later w, w' = u.now) (fun a' => ∀ w', Below w.heap.size w w' → wpList P l.toArray Q (l.drop n) a' w') (l.take n) a) : (Code.region id l.toArray true).wp P Q a w := by
 refine wp_region_quiet_tail (C := fun w' => ∃ u : Later w, w' = u.now) n hm hB ⟨⟨_, (Below.refl w.heap.size w).drew⟩, rfl⟩ ?_
 have h1 := h (fun u b o hb => u.still.cell (p := ⟨b, o, none⟩) hb)
 have e : (fun a' => ∀ w', (∃ u : Later w, w' = u.now) → wpList P l.toArray Q (l.drop n) a' w') = (fun a' => ∀ w', Below w.heap.size w w' → wpList P l.toArray Q (l.drop n) a' w') := by
  funext a'
  apply propext
  constructor
  ·intro g w' hw'; exact g w' ⟨⟨w', hw'⟩, rfl⟩
  ·rintro g w' ⟨u, rfl⟩; exact g _ u.still
 rw [e]
 exact h1
def Ab (a b : World) : Prop := Below a.heap.size a b
theorem Ab.same (a : World) : Ab a a := Below.refl _ _
theorem Ab.trans {a b c : World} (h : Ab a b) (k : Ab b c) : Ab a c := below_c h k
theorem Ab.alloc {a b : World} (h : Ab a b) (o : Obj) : Ab a (b.alloc o) := below_ca h o
section
variable {P : Program} {ops : Array Oper} {md : Region.Mode} {w0 : World}
def Gives (P : Program) (ops : Array Oper) (w0 : World) (o : Oper) (v : Value) (a : Act) : Prop := ∀ w1, Ab w0 w1 → YieldsIn P ops (Ab w1) o v a
theorem Gives.put {oi oj : Oper} {v u : Value} {a : Act} (h : Gives P ops w0 oi v a) (hap : oi.apart ops oj = true) (hsi : ∀ cs b, oi.op ≠ .select cs b) : Gives P ops w0 oi v (a.put oj.dst u) := by
 obtain ⟨_, _, h3⟩ := Oper.apart_spec hap
 exact fun w1 hw => (h w1 hw).of_same (execOp_put oi hsi a oj.dst u h3) (wanted_put oi a oj.dst u h3)
end
structure MemF (E : Nat → Prop) (w W : World) (X : Nat → Option Res) : Prop where
 fr : Fr E w W
 p : ∀ i r, X i = some r → r.P W
 s : ∀ i r, X i = some r → r.Stab
 lo : ∀ i r, X i = some r → ∀ g, r.blk = some g → (w.heap.size ≤ g ∨ E g) ∧ g < W.heap.size
 ne : ∀ (i j : Nat), i ≠ j → ∀ (r q : Res), X i = some r → X j = some q → ∀ g, r.blk = some g → q.blk ≠ some g
def updF (X : Nat → Option Res) (i : Nat) (r : Res) : Nat → Option Res := fun j => if j = i then some r else X j
theorem updF_other (X : Nat → Option Res) {i j : Nat} (h : j ≠ i) (r : Res) : updF X i r j = X j := by unfold updF; rw [if_neg h]
theorem updF_same (X : Nat → Option Res) (i : Nat) (r : Res) : updF X i r i = some r := by unfold updF; rw [if_pos rfl]
section
variable {E : Nat → Prop} {w W W' : World} {X : Nat → Option Res} {r r' : Res} {l : List Res}
theorem MemF.kept (h : MemF E w W X) (hb : Below W.heap.size W W') : MemF E w W' X :=
 ⟨h.fr.kept hb, fun i r hr => h.s i r hr W W' (h.p i r hr) hb.size (fun g hg => hb.block g (h.lo i r hr g hg).2), h.s, fun i r hr g hg => ⟨(h.lo i r hr g hg).1, Nat.lt_of_lt_of_le (h.lo i r hr g hg).2 hb.size⟩, h.ne⟩
theorem MemF.put (h : MemF E w W X) (k : Nat) (b : Option Nat) (hb : ∀ g, b = some g → ∃ r, X k = some r ∧ r.blk = some g) (hO : W.grownBy W' b) (hs : r'.Stab) (hp : r'.P W') (hn : ∀ g, r'.blk = some g → (b = some g ∨ W.heap.size ≤ g) ∧ g < W'.heap.size) : MemF E w W' (updF X k r') := by
 have e : ∀ (m : Nat) (x : Res), updF X k r' m = some x → (m ≠ k ∧ X m = some x) ∨ (m = k ∧ x = r') := by
  intro m x hx
  by_cases hm : m = k
  ·subst hm
   rw [updF_same] at hx
   exact .inr ⟨rfl, (Option.some.inj hx).symm⟩
  ·rw [updF_other X hm] at hx; exact .inl ⟨hm, hx⟩
 have old : ∀ (m : Nat) (x : Res), m ≠ k → X m = some x → ∀ g, x.blk = some g → W'.heap[g]? = W.heap[g]? := by
  intro m x hm hx g hg
  refine hO.block g (h.lo m x hx g hg).2 (fun e2 => ?_)
  obtain ⟨r, hr, hrg⟩ := hb g e2.symm
  exact h.ne m k hm x r hx hr g hg hrg
 refine ⟨h.fr.grown hO (fun j hj => by obtain ⟨r, hr, hrg⟩ := hb j hj; exact (h.lo k r hr j hrg).1), ?_, ?_, ?_, ?_⟩
 ·intro m x hm
  rcases e m x hm with ⟨h1, h2⟩ | ⟨h1, rfl⟩
  ·exact h.s m x h2 W W' (h.p m x h2) hO.size (old m x h1 h2)
  ·exact hp
 ·intro m x hm
  rcases e m x hm with ⟨h1, h2⟩ | ⟨h1, rfl⟩
  ·exact h.s m x h2
  ·exact hs
 ·intro m x hm g hg
  rcases e m x hm with ⟨h1, h2⟩ | ⟨h1, rfl⟩
  ·have := h.lo m x h2 g hg
   exact ⟨this.1, Nat.lt_of_lt_of_le this.2 hO.size⟩
  ·refine ⟨?_, (hn g hg).2⟩
   rcases (hn g hg).1 with h3 | h3
   ·obtain ⟨r, hr, hrg⟩ := hb g h3; exact (h.lo k r hr g hrg).1
   ·exact .inl (Nat.le_trans h.fr.size h3)
 ·intro i j hij a q hi hj g hg
  rcases e i a hi with ⟨h1, h2⟩ | ⟨h1, rfl⟩
  ·rcases e j q hj with ⟨h3, h4⟩ | ⟨h3, rfl⟩
   ·exact h.ne i j hij a q h2 h4 g hg
   ·intro e2
    have hlo := (h.lo i a h2 g hg).2
    rcases (hn g e2).1 with h5 | h5
    ·obtain ⟨r, hr, hrg⟩ := hb g h5; exact h.ne i k h1 a r h2 hr g hg hrg
    ·omega
  ·rcases e j q hj with ⟨h3, h4⟩ | ⟨h3, rfl⟩
   ·intro e2
    have hlo := (h.lo j q h4 g e2).2
    rcases (hn g hg).1 with h5 | h5
    ·obtain ⟨r, hr, hrg⟩ := hb g h5; exact h.ne k j (fun x => h3 x.symm) r q hr h4 g hrg e2
    ·omega
   ·omega
end
inductive MKd
 | q (v : Value)
 | al (T : TypeId) (Z : List Value)
 | st (m : Nat) (T : TypeId) (cs : List Value)
section
variable {E : Nat → Prop} {P : Program} {ops : Array Oper} {md : Region.Mode} {w0 : World} {C0 : World → Prop}
def GivesC (P : Program) (ops : Array Oper) (C0 : World → Prop) (o : Oper) (v : Value) (a : Act) : Prop := ∀ w1, C0 w1 → YieldsIn P ops (Ab w1) o v a
theorem GivesC.put {oi oj : Oper} {v u : Value} {a : Act} (h : GivesC P ops C0 oi v a) (hap : ∀ d, oj.dst = some d → d ∉ oi.looksAt ops) (hsi : ∀ cs b, oi.op ≠ .select cs b) : GivesC P ops C0 oi v (a.put oj.dst u) :=
 fun w1 hw => (h w1 hw).of_same (execOp_put oi hsi a oj.dst u hap) (wanted_put oi a oj.dst u hap)
structure StoreOk (P : Program) (ops : Array Oper) (o : Oper) (g : Nat) (T : TypeId) (cs : List Value) (a : Act) : Prop where
 dst : o.dst = none
 gd : o.guard = none
 run : ∃ p y, o.op = .store T p y ∧ a.eval p = .pointer (some ⟨g, 0, none⟩) ∧ (a.eval y).cells = cs.toArray
 sz : (P.info? T).map (·.size) = some cs.length
 one : cs.all (·.oneCell') = true
theorem looks_store {o : Oper} {T : TypeId} {p y : Operand} (h : o.op = .store T p y) {d : Nat} (hd : p = .tmp d ∨ y = .tmp d) : d ∈ o.looksAt ops := by
 refine List.mem_append_left _ (List.mem_filterMap.2 ⟨.tmp d, ?_, rfl⟩)
 rcases hd with hd | hd <;> simp [h, Op.operands, hd]
theorem StoreOk.move {o oj : Oper} {g : Nat} {T : TypeId} {cs : List Value} {a : Act} {u : Value} (h : StoreOk P ops o g T cs a) (hap : ∀ d, oj.dst = some d → d ∉ o.looksAt ops) : StoreOk P ops o g T cs (a.put oj.dst u) := by
 obtain ⟨h1, h2, ⟨p, y, h3, h4, h5⟩, h6, h7⟩ := h
 exact ⟨h1, h2, ⟨p, y, h3, by rw [Act.eval_put fun d hd hpd => hap d hd (looks_store h3 (.inl hpd))]; exact h4, by rw [Act.eval_put fun d hd hpd => hap d hd (looks_store h3 (.inr hpd))]; exact h5⟩, h6, h7⟩
theorem At.fill {w : World} {g : Nat} {t : TypeId} {c cs : List Value} (hA : At w g t c) (hl : c.length = cs.length) : At (w.setCells g 0 cs) g t cs := by
  have hblk : ∀ (vs : List Value) (o : Nat) (X : World) (c : List Value), At X g t c → ∃ c', At (X.setCells g o vs) g t c' ∧ c'.length = c.length := by
    intro vs
    induction vs with
    | nil => intro o X c hc; exact ⟨c, hc, rfl⟩
    | cons v r ih =>
      intro o X c hc
      obtain ⟨c', h1, h2⟩ := ih (o + 1) _ _ (hc.set_ o v)
      exact ⟨c', h1, by rw [h2, List.length_set]⟩
  obtain ⟨c', h2, h3⟩ := hblk cs 0 w c hA
  have ht : w.there g 0 cs.length := fun j hj => ⟨by rw [Nat.zero_add, hA.cell, List.getElem?_eq_getElem (by omega)]; rfl, hA.free _⟩
  have e : c' = cs := by
    refine List.ext_getElem (by omega) fun j hj hj' => ?_
    have a1 := h2.cell j
    have a2 := World.rangeAt_setCells_same w g 0 cs ht j cs[j] (by simp)
    rw [Nat.zero_add, a1, List.getElem?_eq_getElem hj] at a2
    exact Option.some.inj a2
  rw [e] at h2
  exact h2
end
section
variable {E : Nat → Prop} {P : Program} {l : List Oper} {w0 : World} {C0 : World → Prop} {L : (Nat → Option Res) → Act → Prop}
end
end Go.Proofs.Ytfpifahkpkjfgaa
