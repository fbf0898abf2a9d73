/- What a call is handed of what is known (the first things of the list), and what comes back. -/
import Derived.Test.YtfpifahkpkjfgaaMem
namespace Go.Proofs.Ytfpifahkpkjfgaa
open Go.RowKit
set_option linter.unusedVariables false

/-- the blocks of these things -/
def blkE (a : List Res) : Nat → Prop := fun g => ∃ r ∈ a, r.blk = some g
section
variable {E : Nat → Prop} {w W W' : World} {a b a' : List Res}
theorem MemX.hand (h : MemX E w W (a ++ b)) : MemX (blkE a) W W a := by
  refine ⟨Fr.refl _ _, fun r hr => h.p r (List.mem_append_left _ hr), fun r hr => h.s r (List.mem_append_left _ hr), fun r hr g hg => ⟨.inr ⟨r, hr, hg⟩, (h.lo r (List.mem_append_left _ hr) g hg).2⟩, fun i j hij r q hi hj => ?_⟩
  have hil := (List.getElem?_eq_some_iff.1 hi).1
  have hjl := (List.getElem?_eq_some_iff.1 hj).1
  exact h.ne i j hij r q (by rw [List.getElem?_append_left hil]; exact hi) (by rw [List.getElem?_append_left hjl]; exact hj)
theorem MemX.back (h : MemX E w W (a ++ b)) (h' : MemX (blkE a) W W' a') : MemX E w W' (a' ++ b) := by
  have hnb : ∀ r ∈ b, ∀ g, r.blk = some g → ¬ blkE a g := fun r hr g hg ⟨q, hq, hqg⟩ => by
    obtain ⟨i, hi⟩ := List.getElem?_of_mem hq
    obtain ⟨j, hj⟩ := List.getElem?_of_mem hr
    have hil := (List.getElem?_eq_some_iff.1 hi).1
    refine h.ne i (a.length + j) (by omega) q r (by rw [List.getElem?_append_left hil]; exact hi) ?_ g hqg hg
    rw [List.getElem?_append_right (by omega), Nat.add_sub_cancel_left]; exact hj
  have hE : ∀ g, blkE a g → w.heap.size ≤ g ∨ E g := fun g ⟨q, hq, hqg⟩ => (h.lo q (List.mem_append_left _ hq) g hqg).1
  have hlo : ∀ r ∈ a', ∀ g, r.blk = some g → (w.heap.size ≤ g ∨ E g) ∧ g < W'.heap.size := fun r hr g hg => by
    have := h'.lo r hr g hg
    exact ⟨this.1.elim (fun h1 => .inl (Nat.le_trans h.fr.size h1)) (hE g), this.2⟩
  have hap : ∀ r ∈ a', ∀ q ∈ b, ∀ g, r.blk = some g → q.blk ≠ some g := fun r hr q hq g hg hqg => by
    have h1 := h'.lo r hr g hg
    have h2 := (h.lo q (List.mem_append_right _ hq) g hqg).2
    rcases h1.1 with h3 | h3
    · omega
    · exact hnb q hq g hqg h3
  refine ⟨⟨h'.fr.os.trans h.fr.os, h'.fr.tape.trans h.fr.tape, h'.fr.output.trans h.fr.output, Nat.le_trans h.fr.size h'.fr.size, fun k hk hn => ?_⟩, ?_, ?_, ?_, ?_⟩
  · refine (h'.fr.block k (Nat.lt_of_lt_of_le hk h.fr.size) (fun e => ?_)).trans (h.fr.block k hk hn)
    rcases hE k e with h1 | h1
    · omega
    · exact hn h1
  · intro r hr
    rcases List.mem_append.1 hr with hr | hr
    · exact h'.p r hr
    · exact h.s r (List.mem_append_right _ hr) W W' (h.p r (List.mem_append_right _ hr)) h'.fr.size (fun g hg => h'.fr.block g (h.lo r (List.mem_append_right _ hr) g hg).2 (hnb r hr g hg))
  · intro r hr
    rcases List.mem_append.1 hr with hr | hr
    · exact h'.s r hr
    · exact h.s r (List.mem_append_right _ hr)
  · intro r hr g hg
    rcases List.mem_append.1 hr with hr | hr
    · exact hlo r hr g hg
    · have := h.lo r (List.mem_append_right _ hr) g hg
      exact ⟨this.1, Nat.lt_of_lt_of_le this.2 h'.fr.size⟩
  · intro i j hij r q hi hj g hg
    have key : ∀ (m : Nat) (x : Res), (a' ++ b)[m]? = some x → (m < a'.length ∧ a'[m]? = some x) ∨ (a'.length ≤ m ∧ b[m - a'.length]? = some x) := fun m x hx => by
      by_cases hm : m < a'.length
      · rw [List.getElem?_append_left hm] at hx; exact .inl ⟨hm, hx⟩
      · rw [List.getElem?_append_right (by omega)] at hx; exact .inr ⟨by omega, hx⟩
    rcases key i r hi with ⟨i1, i2⟩ | ⟨i1, i2⟩
    · rcases key j q hj with ⟨j1, j2⟩ | ⟨j1, j2⟩
      · exact h'.ne i j hij r q i2 j2 g hg
      · exact hap r (List.mem_of_getElem? i2) q (List.mem_of_getElem? j2) g hg
    · rcases key j q hj with ⟨j1, j2⟩ | ⟨j1, j2⟩
      · exact fun e => hap q (List.mem_of_getElem? j2) r (List.mem_of_getElem? i2) g e hg
      · have ib := (List.getElem?_eq_some_iff.1 i2).1
        have jb := (List.getElem?_eq_some_iff.1 j2).1
        exact h.ne (a.length + (i - a'.length)) (a.length + (j - a'.length)) (by omega) r q (by rw [List.getElem?_append_right (by omega), Nat.add_sub_cancel_left]; exact i2) (by rw [List.getElem?_append_right (by omega), Nat.add_sub_cancel_left]; exact j2) g hg
/-- two lists of things, the first one made by a call -/
theorem MemX.new_ (h : MemX E w W b) (h' : MemX noE W W' a') : MemX E w W' (a' ++ b) := by
  have : MemX E w W ([] ++ b) := h
  refine this.back (a := []) ⟨⟨h'.fr.os, h'.fr.tape, h'.fr.output, h'.fr.size, fun k hk hn => h'.fr.block k hk (fun e => e)⟩, h'.p, h'.s, fun r hr g hg => ?_, h'.ne⟩
  have := h'.lo r hr g hg
  exact ⟨.inl (this.1.resolve_right (fun e => e)), this.2⟩
/-- in another order -/
theorem MemX.perm {l l' : List Res} (h : MemX E w W l) (hp : l.Perm l') : MemX E w W l' := by
  have hpw : ∀ {m : List Res}, (∀ (i j : Nat), i ≠ j → ∀ (r q : Res), m[i]? = some r → m[j]? = some q → ∀ g, r.blk = some g → q.blk ≠ some g) ↔ m.Pairwise (fun r q => ∀ g, r.blk = some g → q.blk ≠ some g) := fun {m} => by
    rw [List.pairwise_iff_getElem]
    constructor
    · intro h i j hi hj hij
      exact h i j (by omega) _ _ (List.getElem?_eq_getElem hi) (List.getElem?_eq_getElem hj)
    · intro h i j hij r q hi hj g hg hqg
      obtain ⟨i1, rfl⟩ := List.getElem?_eq_some_iff.1 hi
      obtain ⟨j1, rfl⟩ := List.getElem?_eq_some_iff.1 hj
      rcases Nat.lt_or_gt_of_ne hij with h1 | h1
      · exact h i j i1 j1 h1 g hg hqg
      · exact h j i j1 i1 h1 g hqg hg
  refine ⟨h.fr, fun r hr => h.p r (hp.mem_iff.2 hr), fun r hr => h.s r (hp.mem_iff.2 hr), fun r hr => h.lo r (hp.mem_iff.2 hr), hpw.2 ?_⟩
  exact (hp.pairwise_iff (fun {r q} hrq g hg hqg => hrq g hqg hg)).1 (hpw.1 h.ne)
/-- fewer of them, from the other end -/
theorem MemX.drop_ (h : MemX E w W (a ++ b)) : MemX E w W b := by
  have := h.perm (List.perm_append_comm (l₁ := a) (l₂ := b))
  have := this.take_ b.length
  rwa [List.take_left] at this
end
end Go.Proofs.Ytfpifahkpkjfgaa
