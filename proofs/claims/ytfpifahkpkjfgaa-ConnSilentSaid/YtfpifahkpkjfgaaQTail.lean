/- A region that draws its order: a head of quiet operations (reads; calls that leave a world of a class), then a tail in one forced order. Whatever order is drawn for the head, the tail begins in one frame, in some world of the class. -/
import Derived.Test.YtfpifahkpkjfgaaBase
import Derived.StillTail
import Derived.Deep.Quiet
namespace Go.Proofs.Ytfpifahkpkjfgaa
open Go Go.RowKit
set_option linter.unusedVariables false

section
variable {P : Program} {ops : Array Oper} {md : Region.Mode} {C : World → Prop}
/-- whatever head operation is drawn, f times; then L -/
def headQ (P : Program) (md : Region.Mode) (ops : Array Oper) (C : World → Prop) (n : Nat) (L : Array Bool → Act → Prop) : Nat → Array Bool → Act → Prop
  | 0 => L
  | f + 1 => fun done a => Region.ready md ops done ≠ [] ∧ ∀ i, i ∈ Region.ready md ops done → i < n ∧ qOp P ops C i (headQ P md ops C n L f (done.setIfInBounds i true)) a
theorem headQ_any {n g : Nat} {L : Array Bool → Act → Prop} {Q : Exit → Act → World → Prop} (h : ∀ done a w, C w → L done a → wpAny P md ops Q g done a w) (f : Nat) :
    ∀ done a w, C w → headQ P md ops C n L f done a → wpAny P md ops Q (f + g) done a w := by
  induction f with
  | zero => intro done a w hw hh; rw [Nat.zero_add]; exact h done a w hw hh
  | succ f ih =>
    intro done a w hw hh
    have e : f + 1 + g = (f + g) + 1 := by omega
    rw [e]
    constructor
    · intro h0; exact absurd h0 hh.1
    · intro i hi; exact wpOp_of_qOp hw (fun a' w' hw' k => ih _ a' w' hw' k) (hh.2 i hi).2
/-- what is free of i, and not yet done, may be done ahead of i -/
def FreeOf (md : Region.Mode) (ops : Array Oper) (i : Nat) (oi : Oper) (done : Array Bool) : Prop :=
  ∀ j oj, ops[j]? = some oj → j ≠ i → done.getD j true = false → (∀ e ∈ oj.after, Region.binds md e = true → e.on ≠ i) → oi.apart ops oj = true
theorem FreeOf.more {i j : Nat} {oi : Oper} {done : Array Bool} (h : FreeOf md ops i oi done) (hj : done.getD j true = false) : FreeOf md ops i oi (done.setIfInBounds j true) := by
  intro k ok hk hki hun hno
  refine h k ok hk hki ?_ hno
  by_cases e : j = k
  · rw [← e]; exact hj
  · rwa [getD_set_ne true e] at hun
theorem headQ_swap {n i : Nat} {oi : Oper} {v : Value} {L : Array Bool → Act → Prop} (hi : ops[i]? = some oi) (hsel : ∀ (j : Nat) (o : Oper) cs b, ops[j]? = some o → o.op ≠ .select cs b)
    (hs : Region.sinkB md ops n = true) (hc : Region.chainB md ops n = true) (hn : n < ops.size) (hin : i < n) (hL : ∀ done a, L done a → ∀ j, j ∈ Region.ready md ops done → n ≤ j) (f : Nat) :
    ∀ done a, HeadInv md ops n done → FreeOf md ops i oi done → i ∈ Region.ready md ops done → YieldsIn P ops C oi v a →
      headQ P md ops C n L f (done.setIfInBounds i true) (a.put oi.dst v) → headQ P md ops C n L (f + 1) done a := by
  have low : ∀ done, HeadInv md ops n done → i ∈ Region.ready md ops done → ∀ j, j ∈ Region.ready md ops done → j < n := by
    intro done inv hr j hj
    by_cases h : j < n
    · exact h
    · exact absurd hj (tail_waits hs hc hn inv _ i rfl hin (mem_ready.1 hr).1 j (by omega))
  induction f with
  | zero =>
    intro done a inv hf hr hy hh
    refine ⟨fun h => (by rw [h] at hr; cases hr), fun j hj => ⟨low done inv hr j hj, ?_⟩⟩
    by_cases e : j = i
    · rw [e]; exact hy.qOp hi hh
    · exact absurd (hL _ _ hh j (ready_mono hj e)) (by have := low done inv hr j hj; omega)
  | succ f ih =>
    intro done a inv hf hr hy hh
    refine ⟨fun h => (by rw [h] at hr; cases hr), fun j hj => ⟨low done inv hr j hj, ?_⟩⟩
    by_cases e : j = i
    · rw [e]; exact hy.qOp hi hh
    · obtain ⟨hun, oj, hoj, hall⟩ := mem_ready.1 hj
      have hnot : ∀ x ∈ oj.after, Region.binds md x = true → x.on ≠ i := by
        intro x hx hb hxi
        have h1 := hall x hx hb
        rw [hxi, getD_both (mem_ready.1 hr).1] at h1
        cases h1
      have hap := hf j oj hoj e hun hnot
      have hq := qOp_put (C := C) hoj hap (fun cs b => hsel i oi cs b hi) (fun cs b => hsel j oj cs b hoj) hy (hh.2 j (ready_mono hj e)).2
      refine qOp_mono (fun a' h3 => ?_) hq
      have hswap := h3.2
      rw [Array.setIfInBounds_comm _ _ (fun x => e x.symm)] at hswap
      exact ih _ a' (inv.set hj (low done inv hr j hj)) (hf.more hun) (ready_mono hr (fun x => e x.symm)) h3.1 hswap
theorem headQ_lex {n g : Nat} {Lq : Act → Prop} (hsel : Region.noSelect ops = true) (hs : Region.sinkB md ops n = true) (hc : Region.chainB md ops n = true) (hn : n < ops.size) (l : List Oper) :
    ∀ (k : Nat) (done : Array Bool) (a : Act), (∀ j, j < l.length → l[j]? = ops[k + j]?) → k + l.length = n → HeadInv md ops n done →
    Region.lexHead md ops g l.length k done = true → wpQuiet P ops C Lq l a → headQ P md ops C n (fun d a' => Region.seqB md ops g n d = true ∧ Lq a') l.length done a := by
  induction l with
  | nil =>
    intro k done a _ hk _ hB h
    obtain rfl : k = n := by simpa using hk
    exact ⟨by simpa [Region.lexHead] using hB, h⟩
  | cons o l ih =>
    intro k done a hl hk inv hB h
    have h0 : ops[k]? = some o := by have := hl 0 (by simp); simpa using this.symm
    simp only [List.length_cons, Region.lexHead, Bool.and_eq_true] at hB
    have hkn : k < n := by simp only [List.length_cons] at hk; omega
    have hr : k ∈ Region.ready md ops done := by simpa using hB.1.1
    have hq : qOp P ops C k (wpQuiet P ops C Lq l) a := by unfold qOp; simp only [h0]; exact h
    obtain ⟨v, hy, hK⟩ := yieldsIn_of_qOp h0 hq
    refine headQ_swap h0 (Region.noSelect_spec hsel) hs hc hn hkn (fun d a' hd => seqB_ready hd.1) l.length done a inv (Region.free_spec h0 hB.1.2) hr hy ?_
    refine ih (k + 1) _ _ (fun j hj => ?_) (by simp only [List.length_cons] at hk; omega) (inv.set hr hkn) hB.2 hK
    have := hl (j + 1) (by simp only [List.length_cons]; omega)
    rw [show k + 1 + j = k + (j + 1) by omega]
    simpa using this
theorem wp_region_quiet_tail {id : Nat} {Q : Exit → Act → World → Prop} {a : Act} {w : World} {l : List Oper} (n : Nat) (hm : P.follows .mixedOrders = true) (hB : Region.lexTailB .any l.toArray n = true)
    (hC : C { w with drawn := w.drawn + 1 }) (h : wpQuiet P l.toArray C (fun a' => ∀ w', C w' → wpList P l.toArray Q (l.drop n) a' w') (l.take n) a) : (Code.region id l.toArray true).wp P Q a w := by
  simp only [Region.lexTailB, Bool.and_eq_true, decide_eq_true_eq] at hB
  obtain ⟨⟨⟨⟨hsel, hn⟩, hs⟩, hc⟩, hlex⟩ := hB
  have hnl : n < l.length := by simpa using hn
  have hlen : (l.take n).length = n := by rw [List.length_take]; omega
  have hrest : (l.drop n).length = l.toArray.size - n := by simp
  have inv : HeadInv .any l.toArray n (Array.replicate l.toArray.size false) := by
    refine ⟨by simp, ?_, fun t _ ht => getD_in (by simpa using ht) (getD_replicate_false _ _)⟩
    intro j oj _ hl
    rw [getD_replicate_false] at hl
    cases hl
  refine wp_region_any hm ?_
  have hh := headQ_lex (C := C) (md := .any) (g := l.toArray.size - n) hsel hs hc hn (l.take n) 0 _ a (fun j hj => by
    rw [hlen] at hj
    simp [hj]) (by simpa using hlen) inv (by rw [hlen]; exact hlex) h
  rw [hlen] at hh
  have := headQ_any (Q := Q) (g := l.toArray.size - n) (fun d a' w' hw' hL => by
    have := wpAny_of_seq (md := .any) (Q' := Q) (l.drop n) n d a' w' (fun j => by simp [List.getElem?_drop]) (by rw [hrest]; exact hL.1) (hL.2 w' hw')
    rwa [hrest] at this) n _ _ _ hC hh
  rw [show n + (l.toArray.size - n) = l.toArray.size by omega] at this
  exact this
end
/-- The same, in the class of worlds in which all that was there is as it was. -/
theorem wp_region_later_tail {P : Program} {id : Nat} {Q : Exit → Act → World → Prop} {a : Act} {w : World} {l : List Oper} (n : Nat) (hm : P.follows .mixedOrders = true) (hB : Region.lexTailB .any l.toArray n = true)
    (h : (∀ (u : Later w) (b o : Nat), b < w.heap.size → u.now.cell? ⟨b, o, none⟩ = w.cell? ⟨b, o, none⟩) →
      wpQuiet P l.toArray (fun w' => ∃ u : Later w, w' = u.now) (fun a' => ∀ w', Below w.heap.size w w' → wpList P l.toArray Q (l.drop n) a' w') (l.take n) a) : (Code.region id l.toArray true).wp P Q a w := by
  refine wp_region_quiet_tail (C := fun w' => ∃ u : Later w, w' = u.now) n hm hB ⟨⟨_, (Below.refl w.heap.size w).drew⟩, rfl⟩ ?_
  have h1 := h (fun u b o hb => u.still.cell (p := ⟨b, o, none⟩) hb)
  have e : (fun a' => ∀ w', (∃ u : Later w, w' = u.now) → wpList P l.toArray Q (l.drop n) a' w') = (fun a' => ∀ w', Below w.heap.size w w' → wpList P l.toArray Q (l.drop n) a' w') := by
    funext a'
    apply propext
    constructor
    · intro g w' hw'; exact g w' ⟨⟨w', hw'⟩, rfl⟩
    · rintro g w' ⟨u, rfl⟩; exact g _ u.still
  rw [e]
  exact h1
end Go.Proofs.Ytfpifahkpkjfgaa
