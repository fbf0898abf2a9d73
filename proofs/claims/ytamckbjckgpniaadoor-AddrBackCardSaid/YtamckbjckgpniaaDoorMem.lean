/- Memory of the call's own, as one list: what lies in which block. -/
import Derived.Test.YtamckbjckgpniaaDoorByteS
import Derived.Deep.MidRow
namespace Go.Proofs.YtamckbjckgpniaaDoor
open Go.RowKit
set_option linter.unusedVariables false

theorem calls_b {P : Program} {f : FuncId} {args : Array Value} {w : World} {v : Value} (h : Calls P f args w fun e w' => e = .returned v ∧ w = w') : Calls P f args w fun e w' => e = .returned v ∧ Below w.heap.size w w' :=
  h.mono fun _ _ ⟨h1, h2⟩ => ⟨h1, h2 ▸ Below.refl _ _⟩
/-- something that lies in one block (or in none) -/
structure Res where
  blk : Option Nat
  P : World → Prop
/-- it looks at its block alone -/
def Res.Stab (r : Res) : Prop := ∀ w w' : World, r.P w → w.heap.size ≤ w'.heap.size → (∀ g, r.blk = some g → w'.heap[g]? = w.heap[g]?) → r.P w'
def atR (g : Nat) (t : TypeId) (cs : List Value) : Res := ⟨some g, fun W => At W g t cs⟩
def winR (base size : Nat) (v : Value) (n : Nat) (cs : List Value) : Res := ⟨v.ownBlock, fun W => Win W base size v n cs⟩
theorem atR_stab (g : Nat) (t : TypeId) (cs : List Value) : (atR g t cs).Stab := fun w w' h _ hb => (hb g rfl).trans h
theorem winR_stab (base size : Nat) (v : Value) (n : Nat) (cs : List Value) : (winR base size v n cs).Stab := fun w w' h hs hb => by
  refine ⟨h.1, ?_⟩
  rcases h.2 with h0 | ⟨g, off, cap, rfl, hW⟩
  · exact .inl h0
  · exact .inr ⟨g, off, cap, rfl, hW.move (Nat.lt_of_lt_of_le hW.lt hs) (hb g rfl)⟩
/-- below w's heap all is as it was, but for the blocks of E -/
structure Fr (E : Nat → Prop) (w W : World) : Prop where
  os : W.os = w.os
  tape : W.tape = w.tape
  output : W.output = w.output
  size : w.heap.size ≤ W.heap.size
  block : ∀ k, k < w.heap.size → ¬ E k → W.heap[k]? = w.heap[k]?
def noE : Nat → Prop := fun _ => False
theorem Fr.refl (E : Nat → Prop) (w : World) : Fr E w w := ⟨rfl, rfl, rfl, Nat.le_refl _, fun _ _ _ => rfl⟩
theorem Fr.kept {E : Nat → Prop} {w W W' : World} (h : Fr E w W) (hb : Below W.heap.size W W') : Fr E w W' :=
  ⟨hb.os.trans h.os, hb.tape.trans h.tape, hb.output.trans h.output, Nat.le_trans h.size hb.size, fun k hk hn => (hb.block k (Nat.lt_of_lt_of_le hk h.size)).trans (h.block k hk hn)⟩
theorem Fr.grown {E : Nat → Prop} {w W W' : World} {row : Option Nat} (h : Fr E w W) (hO : W.grownBy W' row) (hr : ∀ k, row = some k → w.heap.size ≤ k ∨ E k) : Fr E w W' :=
  ⟨hO.os.trans h.os, hO.tape.trans h.tape, hO.output.trans h.output, Nat.le_trans h.size hO.size, fun k hk hn => (hO.block k (Nat.lt_of_lt_of_le hk h.size) (fun e => by
    rcases hr k e.symm with h1 | h1
    · omega
    · exact hn h1)).trans (h.block k hk hn)⟩
theorem Fr.below {w W : World} (h : Fr noE w W) : Below w.heap.size w W := ⟨h.os, h.tape, h.output, h.size, fun k hk => h.block k hk (fun e => e)⟩
theorem Fr.only {w W : World} {E : Nat → Prop} {g : Nat} (h : Fr E w W) (hE : ∀ k, E k → k = g) : w.grownBy W (some g) := ⟨h.os, h.tape, h.output, h.size, fun k hk hn => h.block k hk (fun e => hn (by rw [hE k e]))⟩
/-- what is known of the call's own memory, and of the blocks E that it was handed: since w nothing else of what was there has turned; the things of l lie apart from one another -/
structure MemX (E : Nat → Prop) (w W : World) (l : List Res) : Prop where
  fr : Fr E w W
  p : ∀ r ∈ l, r.P W
  s : ∀ r ∈ l, r.Stab
  lo : ∀ r ∈ l, ∀ g, r.blk = some g → (w.heap.size ≤ g ∨ E g) ∧ g < W.heap.size
  ne : ∀ (i j : Nat), i ≠ j → ∀ (r q : Res), l[i]? = some r → l[j]? = some q → ∀ g, r.blk = some g → q.blk ≠ some g
abbrev Mem := MemX noE
section
variable {E : Nat → Prop} {w W W' : World} {l : List Res} {r r' : Res}
theorem MemX.b (h : MemX noE w W l) : Below w.heap.size w W := h.fr.below
theorem Mem.nil (w : World) : Mem w w [] := ⟨Fr.refl _ _, by simp, by simp, by simp, by intro i j _ r q h; simp at h⟩
theorem MemX.get (h : MemX E w W l) (k : Nat) (hk : l[k]? = some r) : r.P W := h.p r (List.mem_of_getElem? hk)
theorem MemX.at_ {g : Nat} {t : TypeId} {cs : List Value} (h : MemX E w W l) (k : Nat) (hk : l[k]? = some (atR g t cs)) : At W g t cs := h.get k hk
theorem MemX.win_ {base size : Nat} {v : Value} {n : Nat} {cs : List Value} (h : MemX E w W l) (k : Nat) (hk : l[k]? = some (winR base size v n cs)) : Win W base size v n cs := h.get k hk
theorem MemX.cells {g : Nat} {t : TypeId} {cs : List Value} (h : MemX E w W l) (k : Nat) (hk : l[k]? = some (atR g t cs)) : ∀ i, W.cell? ⟨g, i, none⟩ = cs[i]? := fun i => (h.at_ k hk).cell i
theorem MemX.free {g : Nat} {t : TypeId} {cs : List Value} (h : MemX E w W l) (k : Nat) (hk : l[k]? = some (atR g t cs)) : ∀ i, W.frozen? ⟨g, i, none⟩ = false := fun i => (h.at_ k hk).free i
theorem MemX.lt {g : Nat} {t : TypeId} {cs : List Value} (h : MemX E w W l) (k : Nat) (hk : l[k]? = some (atR g t cs)) : g < W.heap.size := (h.at_ k hk).lt
/-- a step that leaves all that was there -/
theorem MemX.kept (h : MemX E w W l) (hb : Below W.heap.size W W') : MemX E w W' l :=
  ⟨h.fr.kept hb, fun r hr => h.s r hr W W' (h.p r hr) hb.size (fun g hg => hb.block g (h.lo r hr g hg).2), h.s, fun r hr g hg => ⟨(h.lo r hr g hg).1, Nat.lt_of_lt_of_le (h.lo r hr g hg).2 hb.size⟩, h.ne⟩
/-- something new -/
theorem MemX.push (h : MemX E w W l) (hb : Below W.heap.size W W') (hs : r.Stab) (hp : r.P W') (hn : ∀ g, r.blk = some g → W.heap.size ≤ g ∧ g < W'.heap.size) : MemX E w W' (l ++ [r]) := by
  have hk := h.kept hb
  have key : ∀ q ∈ l, ∀ g, q.blk = some g → r.blk ≠ some g := fun q hq g hg e => by
    have h1 := (h.lo q hq g hg).2
    have h2 := (hn g e).1
    omega
  refine ⟨hk.fr, ?_, ?_, ?_, ?_⟩
  · intro q hq
    rcases List.mem_append.1 hq with hq | hq
    · exact hk.p q hq
    · obtain rfl := List.mem_singleton.1 hq; exact hp
  · intro q hq
    rcases List.mem_append.1 hq with hq | hq
    · exact hk.s q hq
    · obtain rfl := List.mem_singleton.1 hq; exact hs
  · intro q hq g hg
    rcases List.mem_append.1 hq with hq | hq
    · exact hk.lo q hq g hg
    · obtain rfl := List.mem_singleton.1 hq
      exact ⟨.inl (Nat.le_trans h.fr.size (hn g hg).1), (hn g hg).2⟩
  · intro i j hij a q hi hj g hg
    have e : ∀ (m : Nat) (x : Res), (l ++ [r])[m]? = some x → (l[m]? = some x ∧ m < l.length) ∨ (m = l.length ∧ x = r) := by
      intro m x hx
      by_cases hm : m < l.length
      · rw [List.getElem?_append_left hm] at hx; exact .inl ⟨hx, hm⟩
      · rw [List.getElem?_append_right (by omega)] at hx
        have hml : m - l.length = 0 := by
          by_cases h0 : m - l.length = 0
          · exact h0
          · obtain ⟨z, hz⟩ := Nat.exists_eq_succ_of_ne_zero h0
            rw [hz] at hx; simp at hx
        rw [hml] at hx
        simp at hx
        exact .inr ⟨by omega, hx.symm⟩
    rcases e i a hi with ⟨hi', _⟩ | ⟨hi', rfl⟩
    · rcases e j q hj with ⟨hj', _⟩ | ⟨hj', rfl⟩
      · exact h.ne i j hij a q hi' hj' g hg
      · exact key a (List.mem_of_getElem? hi') g hg
    · rcases e j q hj with ⟨hj', _⟩ | ⟨hj', rfl⟩
      · intro e2; exact key q (List.mem_of_getElem? hj') g e2 hg
      · omega
/-- one of them turns; the rest is as it was -/
theorem MemX.upd (h : MemX E w W l) (k : Nat) (hk : l[k]? = some r) (hO : W.grownBy W' r.blk) (hs : r'.Stab) (hp : r'.P W') (hn : ∀ g, r'.blk = some g → (r.blk = some g ∨ W.heap.size ≤ g) ∧ g < W'.heap.size) : MemX E w W' (l.set k r') := by
  have hkl : k < l.length := (List.getElem?_eq_some_iff.1 hk).1
  have hrm := List.mem_of_getElem? hk
  have e : ∀ (m : Nat) (x : Res), (l.set k r')[m]? = some x → (m ≠ k ∧ l[m]? = some x) ∨ (m = k ∧ x = r') := by
    intro m x hx
    by_cases hm : k = m
    · subst hm
      rw [List.getElem?_set_self hkl] at hx
      exact .inr ⟨rfl, (Option.some.inj hx).symm⟩
    · rw [List.getElem?_set_ne hm] at hx; exact .inl ⟨fun e => hm e.symm, hx⟩
  have old : ∀ (m : Nat) (x : Res), m ≠ k → l[m]? = some x → ∀ g, x.blk = some g → W'.heap[g]? = W.heap[g]? := by
    intro m x hm hx g hg
    exact hO.block g (h.lo x (List.mem_of_getElem? hx) g hg).2 (fun e2 => h.ne m k hm x r hx hk g hg e2.symm)
  have pos : ∀ x ∈ l.set k r', ∃ m, (l.set k r')[m]? = some x := fun x hx => List.getElem?_of_mem hx
  refine ⟨h.fr.grown hO (fun j hj => (h.lo r hrm j hj).1), ?_, ?_, ?_, ?_⟩
  · intro x hx
    obtain ⟨m, hm⟩ := pos x hx
    rcases e m x hm with ⟨h1, h2⟩ | ⟨h1, rfl⟩
    · exact h.s x (List.mem_of_getElem? h2) W W' (h.p x (List.mem_of_getElem? h2)) hO.size (old m x h1 h2)
    · exact hp
  · intro x hx
    obtain ⟨m, hm⟩ := pos x hx
    rcases e m x hm with ⟨h1, h2⟩ | ⟨h1, rfl⟩
    · exact h.s x (List.mem_of_getElem? h2)
    · exact hs
  · intro x hx g hg
    obtain ⟨m, hm⟩ := pos x hx
    rcases e m x hm with ⟨h1, h2⟩ | ⟨h1, rfl⟩
    · have := h.lo x (List.mem_of_getElem? h2) g hg
      exact ⟨this.1, Nat.lt_of_lt_of_le this.2 hO.size⟩
    · refine ⟨?_, (hn g hg).2⟩
      rcases (hn g hg).1 with h3 | h3
      · exact (h.lo r hrm g h3).1
      · exact .inl (Nat.le_trans h.fr.size h3)
  · intro i j hij a q hi hj g hg
    rcases e i a hi with ⟨h1, h2⟩ | ⟨h1, rfl⟩
    · rcases e j q hj with ⟨h3, h4⟩ | ⟨h3, rfl⟩
      · exact h.ne i j hij a q h2 h4 g hg
      · intro e2
        have hlo := (h.lo a (List.mem_of_getElem? h2) g hg).2
        rcases (hn g e2).1 with h5 | h5
        · exact h.ne i k h1 a r h2 hk g hg h5
        · omega
    · rcases e j q hj with ⟨h3, h4⟩ | ⟨h3, rfl⟩
      · intro e2
        have hlo := (h.lo q (List.mem_of_getElem? h4) g e2).2
        rcases (hn g hg).1 with h5 | h5
        · exact h.ne k j (fun x => h3 x.symm) r q hk h4 g h5 e2
        · omega
      · omega
/-- what was laid in hand, and came back turned, put in its place again: two things -/
theorem MemX.splice2 {E' : Nat → Prop} {A B A' B' : Res} {m : List Res} (h : MemX E w W l) (i j : Nat) (hij : i ≠ j) (hi : l[i]? = some A) (hj : l[j]? = some B) (hE : ∀ g, E' g → A.blk = some g ∨ B.blk = some g)
    (h' : MemX E' W W' (A' :: B' :: m)) : MemX E w W' ((l.set i A').set j B') := by
  have hil : i < l.length := (List.getElem?_eq_some_iff.1 hi).1
  have hjl : j < l.length := (List.getElem?_eq_some_iff.1 hj).1
  have hAm := List.mem_of_getElem? hi
  have hBm := List.mem_of_getElem? hj
  have e : ∀ (n : Nat) (x : Res), ((l.set i A').set j B')[n]? = some x → (n ≠ i ∧ n ≠ j ∧ l[n]? = some x) ∨ (n = i ∧ x = A') ∨ (n = j ∧ x = B') := by
    intro n x hx
    by_cases hn : j = n
    · subst hn
      rw [List.getElem?_set_self (by simpa using hjl)] at hx
      exact .inr (.inr ⟨rfl, (Option.some.inj hx).symm⟩)
    · rw [List.getElem?_set_ne hn] at hx
      by_cases hn2 : i = n
      · subst hn2
        rw [List.getElem?_set_self hil] at hx
        exact .inr (.inl ⟨rfl, (Option.some.inj hx).symm⟩)
      · rw [List.getElem?_set_ne hn2] at hx
        exact .inl ⟨fun e => hn2 e.symm, fun e => hn e.symm, hx⟩
  have hnE : ∀ (n : Nat) (x : Res), n ≠ i → n ≠ j → l[n]? = some x → ∀ g, x.blk = some g → ¬ E' g := fun n x h1 h2 hx g hg hE' => by
    rcases hE g hE' with h3 | h3
    · exact h.ne n i h1 x A hx hi g hg h3
    · exact h.ne n j h2 x B hx hj g hg h3
  have old : ∀ (n : Nat) (x : Res), n ≠ i → n ≠ j → l[n]? = some x → ∀ g, x.blk = some g → W'.heap[g]? = W.heap[g]? := fun n x h1 h2 hx g hg =>
    h'.fr.block g (h.lo x (List.mem_of_getElem? hx) g hg).2 (hnE n x h1 h2 hx g hg)
  have hloE : ∀ g, E' g → w.heap.size ≤ g ∨ E g := fun g hg => by
    rcases hE g hg with h3 | h3
    · exact (h.lo A hAm g h3).1
    · exact (h.lo B hBm g h3).1
  have loN : ∀ x, x = A' ∨ x = B' → ∀ g, x.blk = some g → (W.heap.size ≤ g ∨ E' g) ∧ g < W'.heap.size := fun x hx g hg => h'.lo x (by rcases hx with rfl | rfl <;> simp) g hg
  have apart : ∀ (n : Nat) (x y : Res), n ≠ i → n ≠ j → l[n]? = some x → (y = A' ∨ y = B') → ∀ g, x.blk = some g → y.blk ≠ some g := fun n x y h1 h2 hx hy g hg hyg => by
    rcases (loN y hy g hyg).1 with h3 | h3
    · have := (h.lo x (List.mem_of_getElem? hx) g hg).2; omega
    · exact hnE n x h1 h2 hx g hg h3
  have pos : ∀ x ∈ (l.set i A').set j B', ∃ n, ((l.set i A').set j B')[n]? = some x := fun x hx => List.getElem?_of_mem hx
  refine ⟨⟨h'.fr.os.trans h.fr.os, h'.fr.tape.trans h.fr.tape, h'.fr.output.trans h.fr.output, Nat.le_trans h.fr.size h'.fr.size, fun k hk hn => (h'.fr.block k (Nat.lt_of_lt_of_le hk h.fr.size) (fun e2 => by
      rcases hloE k e2 with h3 | h3
      · omega
      · exact hn h3)).trans (h.fr.block k hk hn)⟩, ?_, ?_, ?_, ?_⟩
  · intro x hx
    obtain ⟨n, hn⟩ := pos x hx
    rcases e n x hn with ⟨h1, h2, h3⟩ | ⟨h1, rfl⟩ | ⟨h1, rfl⟩
    · exact h.s x (List.mem_of_getElem? h3) W W' (h.p x (List.mem_of_getElem? h3)) h'.fr.size (old n x h1 h2 h3)
    · exact h'.p _ (by simp)
    · exact h'.p _ (by simp)
  · intro x hx
    obtain ⟨n, hn⟩ := pos x hx
    rcases e n x hn with ⟨h1, h2, h3⟩ | ⟨h1, rfl⟩ | ⟨h1, rfl⟩
    · exact h.s x (List.mem_of_getElem? h3)
    · exact h'.s _ (by simp)
    · exact h'.s _ (by simp)
  · intro x hx g hg
    obtain ⟨n, hn⟩ := pos x hx
    have new : x = A' ∨ x = B' → (w.heap.size ≤ g ∨ E g) ∧ g < W'.heap.size := fun hx => by
      have h3 := loN x hx g hg
      refine ⟨?_, h3.2⟩
      rcases h3.1 with h4 | h4
      · exact .inl (Nat.le_trans h.fr.size h4)
      · exact hloE g h4
    rcases e n x hn with ⟨h1, h2, h3⟩ | ⟨h1, rfl⟩ | ⟨h1, rfl⟩
    · have := h.lo x (List.mem_of_getElem? h3) g hg
      exact ⟨this.1, Nat.lt_of_lt_of_le this.2 h'.fr.size⟩
    · exact new (.inl rfl)
    · exact new (.inr rfl)
  · intro a c hac x y hx hy g hg
    rcases e a x hx with ⟨h1, h2, h3⟩ | ⟨h1, rfl⟩ | ⟨h1, rfl⟩
    · rcases e c y hy with ⟨k1, k2, k3⟩ | ⟨k1, rfl⟩ | ⟨k1, rfl⟩
      · exact h.ne a c hac x y h3 k3 g hg
      · exact apart a x _ h1 h2 h3 (.inl rfl) g hg
      · exact apart a x _ h1 h2 h3 (.inr rfl) g hg
    · rcases e c y hy with ⟨k1, k2, k3⟩ | ⟨k1, rfl⟩ | ⟨k1, rfl⟩
      · exact fun e2 => apart c y _ k1 k2 k3 (.inl rfl) g e2 hg
      · omega
      · exact h'.ne 0 1 (by omega) _ _ rfl rfl g hg
    · rcases e c y hy with ⟨k1, k2, k3⟩ | ⟨k1, rfl⟩ | ⟨k1, rfl⟩
      · exact fun e2 => apart c y _ k1 k2 k3 (.inr rfl) g e2 hg
      · exact h'.ne 1 0 (by omega) _ _ rfl rfl g hg
      · omega
theorem MemX.conv {l' : List Res} (h : MemX E w W l) (e : l = l') : MemX E w W l' := e ▸ h
/-- fewer of them -/
theorem MemX.take_ (h : MemX E w W l) (n : Nat) : MemX E w W (l.take n) :=
  ⟨h.fr, fun r hr => h.p r (List.mem_of_mem_take hr), fun r hr => h.s r (List.mem_of_mem_take hr), fun r hr => h.lo r (List.mem_of_mem_take hr), fun i j hij r q hi hj => by
    rw [List.getElem?_take] at hi hj
    split at hi
    · split at hj
      · exact h.ne i j hij r q hi hj
      · cases hj
    · cases hi⟩
theorem MemX.atPut {g : Nat} {t : TypeId} {cs cs' : List Value} (h : MemX E w W l) (k : Nat) (hk : l[k]? = some (atR g t cs)) (hO : W.grownBy W' (some g)) (hA : At W' g t cs') : MemX E w W' (l.set k (atR g t cs')) :=
  h.upd k hk hO (atR_stab _ _ _) hA (fun j hj => ⟨.inl hj, (Option.some.inj (show some g = some j from hj)) ▸ hA.lt⟩)
theorem MemX.winPut {base size : Nat} {v v' : Value} {n n' : Nat} {cs cs' : List Value} (h : MemX E w W l) (k : Nat) (hk : l[k]? = some (winR base size v n cs)) (hO : W.grownBy W' v.ownBlock) (hA : Win W' base size v' n' cs')
    (hat : v'.ownBlock = v.ownBlock ∨ ∃ k, v'.ownBlock = some k ∧ W.heap.size ≤ k) : MemX E w W' (l.set k (winR base size v' n' cs')) :=
  h.upd k hk hO (winR_stab _ _ _ _ _) hA (fun j hj => ⟨by
    have hj' : v'.ownBlock = some j := hj
    rcases hat with e | ⟨m, e, hm⟩
    · left; show v.ownBlock = some j; rw [← e]; exact hj'
    · right; rw [e] at hj'; cases hj'; exact hm, (hA.lt j hj).2⟩)
theorem MemX.winNil (h : MemX E w W l) (base size : Nat) : MemX E w W (l ++ [winR base size (.slice none 0 0) 0 []]) :=
  h.push (Below.refl _ _) (winR_stab _ _ _ _ _) (Win.nil _ _ _) (fun g hg => by cases hg)
theorem MemX.atNew (h : MemX E w W l) (t : TypeId) (cs : List Value) : MemX E w (W.alloc (.cells cs.toArray t)) (l ++ [atR W.heap.size t cs]) :=
  h.push (below_ca (Below.refl _ _) _) (atR_stab _ _ _) (At.new_ W t cs) (fun g hg => by
    have : W.heap.size = g := by simpa [atR] using hg
    subst this; exact ⟨Nat.le_refl _, by simp⟩)
end
section
variable {P : Program} {ops : Array Oper} {rest : List Oper} {a : Act} {w : World} {Q : Exit → Act → World → Prop} {d : Option Tmp} {ty T R : TypeId} {ps : String} {af : Array Edge} {g : Option (Nat × Bool)} {x y : Operand}
/-- guards: which operation stands first -/
theorem at_load_ (h : wpList P ops Q ({ dst := d, op := .load T x, type := ty, pos := ps, after := af, guard := g } :: rest) a w) : wpList P ops Q ({ dst := d, op := .load T x, type := ty, pos := ps, after := af, guard := g } :: rest) a w := h
theorem at_wanted_ {op : Oper} (_hg : Region.wanted op (yielded ops a.tmps) = true) (h : wpList P ops Q (op :: rest) a w) : wpList P ops Q (op :: rest) a w := h
theorem at_store_ (h : wpList P ops Q ({ dst := d, op := .store T x y, type := ty, pos := ps, after := af, guard := g } :: rest) a w) : wpList P ops Q ({ dst := d, op := .store T x y, type := ty, pos := ps, after := af, guard := g } :: rest) a w := h
theorem at_box_ (h : wpList P ops Q ({ dst := d, op := .box T x, type := ty, pos := ps, after := af, guard := g } :: rest) a w) : wpList P ops Q ({ dst := d, op := .box T x, type := ty, pos := ps, after := af, guard := g } :: rest) a w := h
theorem at_alloc_ (h : wpList P ops Q ({ dst := d, op := .alloc T, type := ty, pos := ps, after := af, guard := g } :: rest) a w) : wpList P ops Q ({ dst := d, op := .alloc T, type := ty, pos := ps, after := af, guard := g } :: rest) a w := h
theorem at_eq_ (h : wpList P ops Q ({ dst := d, op := .binOp .eql T x y R, type := ty, pos := ps, after := af, guard := g } :: rest) a w) : wpList P ops Q ({ dst := d, op := .binOp .eql T x y R, type := ty, pos := ps, after := af, guard := g } :: rest) a w := h
theorem at_ne_ (h : wpList P ops Q ({ dst := d, op := .binOp .neq T x y R, type := ty, pos := ps, after := af, guard := g } :: rest) a w) : wpList P ops Q ({ dst := d, op := .binOp .neq T x y R, type := ty, pos := ps, after := af, guard := g } :: rest) a w := h
end
section
variable {E : Nat → Prop} {P : Program} {ops : Array Oper} {rest : List Oper} {op : Oper} {a : Act} {w0 w : World} {Q : Exit → Act → World → Prop} {l : List Res}
theorem wpList_box_mem (hgd : op.guard = none) (T : TypeId) (x : Operand) (ho : op.op = .box T x) (cs : List Value) (hx : (a.eval x).cells = cs.toArray) (hM : MemX E w0 w l)
    (h : ∀ g W, MemX E w0 W (l ++ [atR g T cs]) → wpList P ops Q rest (a.put op.dst (.pointer (some ⟨g, 0, none⟩))) W) : wpList P ops Q (op :: rest) a w :=
  wpList_plain hgd fun K hK => by
    unfold Oper.wp execOp
    simp only [ho, Instr.box, newVar, newRow, hx, Sem.run_bind, Sem.run_pure, Result.andThen_ok, run_newObj_alloc]
    exact hK _ _ (h _ _ (hM.atNew T cs))
theorem wpList_alloc_mem (hgd : op.guard = none) (T : TypeId) (ho : op.op = .alloc T) (z : Value) (hz : ∀ W, (zeroValue T).run P W = .ok z W) (cs : List Value) (hx : z.cells = cs.toArray) (hM : MemX E w0 w l)
    (h : ∀ g W, MemX E w0 W (l ++ [atR g T cs]) → wpList P ops Q rest (a.put op.dst (.pointer (some ⟨g, 0, none⟩))) W) : wpList P ops Q (op :: rest) a w :=
  wpList_plain hgd fun K hK => by
    unfold Oper.wp execOp
    simp only [ho, Instr.alloc, newVar, newRow, hz, hx, Sem.run_bind, Sem.run_pure, Result.andThen_ok, run_newObj_alloc]
    exact hK _ _ (h _ _ (hM.atNew T cs))
/-- a whole struct read -/
theorem wpList_load_mem (hgd : op.guard = none) (T : TypeId) (x : Operand) (ho : op.op = .load T x) (k : Nat) (g : Nat) (t : TypeId) (cs : List Value) (hM : MemX E w0 w l) (hk : l[k]? = some (atR g t cs)) (hx : a.eval x = .pointer (some ⟨g, 0, none⟩))
    (d : TypeDesc) (hu : P.underlying T = some d) (hd : d.isRow = true) (hi : (P.info? T).map (·.size) = some cs.length)
    (h : wpList P ops Q rest (a.put op.dst (.agg cs.toArray)) w) : wpList P ops Q (op :: rest) a w :=
  wpList_load_mid hgd T x ho g 0 hx cs d (fun j u hj => by rw [Nat.zero_add, (hM.at_ k hk).cell, hj]) hu hd hi h
/-- the same, under a guard that lets it be read -/
theorem wpList_loadg_mem (hgd : Region.wanted op (yielded ops a.tmps) = true) (T : TypeId) (x : Operand) (ho : op.op = .load T x) (k : Nat) (g : Nat) (t : TypeId) (cs : List Value) (hM : MemX E w0 w l) (hk : l[k]? = some (atR g t cs)) (hx : a.eval x = .pointer (some ⟨g, 0, none⟩))
    (d : TypeDesc) (hu : P.underlying T = some d) (hd : d.isRow = true) (hi : (P.info? T).map (·.size) = some cs.length)
    (h : wpList P ops Q rest (a.put op.dst (.agg cs.toArray)) w) : wpList P ops Q (op :: rest) a w :=
  wpList_step fun K hK => by
    rw [if_pos hgd]
    exact wp_load_mid T x ho g 0 hx cs d (fun j u hj => by rw [Nat.zero_add, (hM.at_ k hk).cell, hj]) hu hd hi (hK _ _ h)
/-- a whole struct written -/
theorem wpList_store_mem (hgd : op.guard = none) (T : TypeId) (x y : Operand) (ho : op.op = .store T x y) (k : Nat) (g : Nat) (t : TypeId) (cs cs' : List Value) (hM : MemX E w0 w l) (hk : l[k]? = some (atR g t cs)) (hx : a.eval x = .pointer (some ⟨g, 0, none⟩))
    (hy : a.eval y = .agg cs'.toArray) (hl : cs'.length = cs.length) (hi : (P.info? T).map (·.size) = some cs'.length) (h1 : cs'.all (·.oneCell') = true)
    (h : ∀ W, MemX E w0 W (l.set k (atR g t cs')) → wpList P ops Q rest (a.put op.dst undef) W) : wpList P ops Q (op :: rest) a w := by
  have hA := hM.at_ k hk
  have ht : w.there g 0 cs'.toArray.size := fun j hj => by
    rw [List.size_toArray, hl] at hj
    exact ⟨by rw [Nat.zero_add, hA.cell, List.getElem?_eq_getElem hj]; rfl, hA.free _⟩
  refine wpList_store_mid hgd T x y ho g 0 cs'.toArray hx hy ht (by rw [List.size_toArray]; exact hi) (all_oneCell_toArray (fun v hv => List.all_eq_true.1 h1 v hv)) (h _ ?_)
  refine hM.atPut k hk (by simpa using setCells_grownBy g cs' 0 w) ?_
  have hblk : ∀ (vs : List Value) (o : Nat) (X : World) (c : List Value), At X g t c → ∃ c', At (X.setCells g o vs) g t c' ∧ c'.length = c.length := by
    intro vs
    induction vs with
    | nil => intro o X c hc; exact ⟨c, hc, rfl⟩
    | cons v r ih =>
      intro o X c hc
      obtain ⟨c', h1, h2⟩ := ih (o + 1) _ _ (hc.set_ o v)
      exact ⟨c', h1, by rw [h2, List.length_set]⟩
  obtain ⟨c', h2, h3⟩ := hblk cs' 0 w cs hA
  have e : c' = cs' := by
    refine List.ext_getElem (by omega) fun j hj hj' => ?_
    have a1 := h2.cell j
    have a2 := World.rangeAt_setCells_same w g 0 cs' (by simpa using ht) j cs'[j] (by simp)
    rw [Nat.zero_add, a1, List.getElem?_eq_getElem hj] at a2
    exact Option.some.inj a2
  rw [e] at h2
  simpa using h2
end
end Go.Proofs.YtamckbjckgpniaaDoor
