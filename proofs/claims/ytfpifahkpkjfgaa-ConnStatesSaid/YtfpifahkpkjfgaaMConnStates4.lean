/- What ConnStates needs, part 4: QTail, QAlloc. -/
import Derived.StillTail
import Derived.Deep.Quiet
import Derived.Test.YtfpifahkpkjfgaaMConnStates1
/- A region that draws its order: a head of quiet operations (reads; calls that leave a world of a class), then a tail in one forced order. Whatever order is drawn for the head, the tail begins in one frame, in some world of the class. -/
namespace Go.Proofs.Ytfpifahkpkjfgaa
open Go Go.RowKit
set_option linter.unusedVariables false

section
variable {P : Program} {ops : Array Oper} {md : Region.Mode} {C : World → Prop}
/-- whatever head operation is drawn, f times; then L -/
def headQ (P : Program) (md : Region.Mode) (ops : Array Oper) (C : World → Prop) (n : Nat) (L : Array Bool → Act → Prop) : Nat → Array Bool → Act → Prop
  | 0 => L
  | f + 1 => fun done a => Region.ready md ops done ≠ [] ∧ ∀ i, i ∈ Region.ready md ops done → i < n ∧ qOp P ops C i (headQ P md ops C n L f (done.setIfInBounds i true)) a
theorem headQ_any {n g : Nat} {L : Array Bool → Act → Prop} {Q : Exit → Act → World → Prop} (h : ∀ done a w, C w → L done a → wpAny P md ops Q g done a w) (f : Nat) :
    ∀ done a w, C w → headQ P md ops C n L f done a → wpAny P md ops Q (f + g) done a w := by
  induction f with
  | zero => intro done a w hw hh; rw [Nat.zero_add]; exact h done a w hw hh
  | succ f ih =>
    intro done a w hw hh
    have e : f + 1 + g = (f + g) + 1 := by omega
    rw [e]
    constructor
    · intro h0; exact absurd h0 hh.1
    · intro i hi; exact wpOp_of_qOp hw (fun a' w' hw' k => ih _ a' w' hw' k) (hh.2 i hi).2
/-- what is free of i, and not yet done, may be done ahead of i -/
def FreeOf (md : Region.Mode) (ops : Array Oper) (i : Nat) (oi : Oper) (done : Array Bool) : Prop :=
  ∀ j oj, ops[j]? = some oj → j ≠ i → done.getD j true = false → (∀ e ∈ oj.after, Region.binds md e = true → e.on ≠ i) → oi.apart ops oj = true
theorem FreeOf.more {i j : Nat} {oi : Oper} {done : Array Bool} (h : FreeOf md ops i oi done) (hj : done.getD j true = false) : FreeOf md ops i oi (done.setIfInBounds j true) := by
  intro k ok hk hki hun hno
  refine h k ok hk hki ?_ hno
  by_cases e : j = k
  · rw [← e]; exact hj
  · rwa [getD_set_ne true e] at hun
theorem headQ_swap {n i : Nat} {oi : Oper} {v : Value} {L : Array Bool → Act → Prop} (hi : ops[i]? = some oi) (hsel : ∀ (j : Nat) (o : Oper) cs b, ops[j]? = some o → o.op ≠ .select cs b)
    (hs : Region.sinkB md ops n = true) (hc : Region.chainB md ops n = true) (hn : n < ops.size) (hin : i < n) (hL : ∀ done a, L done a → ∀ j, j ∈ Region.ready md ops done → n ≤ j) (f : Nat) :
    ∀ done a, HeadInv md ops n done → FreeOf md ops i oi done → i ∈ Region.ready md ops done → YieldsIn P ops C oi v a →
      headQ P md ops C n L f (done.setIfInBounds i true) (a.put oi.dst v) → headQ P md ops C n L (f + 1) done a := by
  have low : ∀ done, HeadInv md ops n done → i ∈ Region.ready md ops done → ∀ j, j ∈ Region.ready md ops done → j < n := by
    intro done inv hr j hj
    by_cases h : j < n
    · exact h
    · exact absurd hj (tail_waits hs hc hn inv _ i rfl hin (mem_ready.1 hr).1 j (by omega))
  induction f with
  | zero =>
    intro done a inv hf hr hy hh
    refine ⟨fun h => (by rw [h] at hr; cases hr), fun j hj => ⟨low done inv hr j hj, ?_⟩⟩
    by_cases e : j = i
    · rw [e]; exact hy.qOp hi hh
    · exact absurd (hL _ _ hh j (ready_mono hj e)) (by have := low done inv hr j hj; omega)
  | succ f ih =>
    intro done a inv hf hr hy hh
    refine ⟨fun h => (by rw [h] at hr; cases hr), fun j hj => ⟨low done inv hr j hj, ?_⟩⟩
    by_cases e : j = i
    · rw [e]; exact hy.qOp hi hh
    · obtain ⟨hun, oj, hoj, hall⟩ := mem_ready.1 hj
      have hnot : ∀ x ∈ oj.after, Region.binds md x = true → x.on ≠ i := by
        intro x hx hb hxi
        have h1 := hall x hx hb
        rw [hxi, getD_both (mem_ready.1 hr).1] at h1
        cases h1
      have hap := hf j oj hoj e hun hnot
      have hq := qOp_put (C := C) hoj hap (fun cs b => hsel i oi cs b hi) (fun cs b => hsel j oj cs b hoj) hy (hh.2 j (ready_mono hj e)).2
      refine qOp_mono (fun a' h3 => ?_) hq
      have hswap := h3.2
      rw [Array.setIfInBounds_comm _ _ (fun x => e x.symm)] at hswap
      exact ih _ a' (inv.set hj (low done inv hr j hj)) (hf.more hun) (ready_mono hr (fun x => e x.symm)) h3.1 hswap
theorem headQ_lex {n g : Nat} {Lq : Act → Prop} (hsel : Region.noSelect ops = true) (hs : Region.sinkB md ops n = true) (hc : Region.chainB md ops n = true) (hn : n < ops.size) (l : List Oper) :
    ∀ (k : Nat) (done : Array Bool) (a : Act), (∀ j, j < l.length → l[j]? = ops[k + j]?) → k + l.length = n → HeadInv md ops n done →
    Region.lexHead md ops g l.length k done = true → wpQuiet P ops C Lq l a → headQ P md ops C n (fun d a' => Region.seqB md ops g n d = true ∧ Lq a') l.length done a := by
  induction l with
  | nil =>
    intro k done a _ hk _ hB h
    obtain rfl : k = n := by simpa using hk
    exact ⟨by simpa [Region.lexHead] using hB, h⟩
  | cons o l ih =>
    intro k done a hl hk inv hB h
    have h0 : ops[k]? = some o := by have := hl 0 (by simp); simpa using this.symm
    simp only [List.length_cons, Region.lexHead, Bool.and_eq_true] at hB
    have hkn : k < n := by simp only [List.length_cons] at hk; omega
    have hr : k ∈ Region.ready md ops done := by simpa using hB.1.1
    have hq : qOp P ops C k (wpQuiet P ops C Lq l) a := by unfold qOp; simp only [h0]; exact h
    obtain ⟨v, hy, hK⟩ := yieldsIn_of_qOp h0 hq
    refine headQ_swap h0 (Region.noSelect_spec hsel) hs hc hn hkn (fun d a' hd => seqB_ready hd.1) l.length done a inv (Region.free_spec h0 hB.1.2) hr hy ?_
    refine ih (k + 1) _ _ (fun j hj => ?_) (by simp only [List.length_cons] at hk; omega) (inv.set hr hkn) hB.2 hK
    have := hl (j + 1) (by simp only [List.length_cons]; omega)
    rw [show k + 1 + j = k + (j + 1) by omega]
    simpa using this
theorem wp_region_quiet_tail {id : Nat} {Q : Exit → Act → World → Prop} {a : Act} {w : World} {l : List Oper} (n : Nat) (hm : P.follows .mixedOrders = true) (hB : Region.lexTailB .any l.toArray n = true)
    (hC : C { w with drawn := w.drawn + 1 }) (h : wpQuiet P l.toArray C (fun a' => ∀ w', C w' → wpList P l.toArray Q (l.drop n) a' w') (l.take n) a) : (Code.region id l.toArray true).wp P Q a w := by
  simp only [Region.lexTailB, Bool.and_eq_true, decide_eq_true_eq] at hB
  obtain ⟨⟨⟨⟨hsel, hn⟩, hs⟩, hc⟩, hlex⟩ := hB
  have hnl : n < l.length := by simpa using hn
  have hlen : (l.take n).length = n := by rw [List.length_take]; omega
  have hrest : (l.drop n).length = l.toArray.size - n := by simp
  have inv : HeadInv .any l.toArray n (Array.replicate l.toArray.size false) := by
    refine ⟨by simp, ?_, fun t _ ht => getD_in (by simpa using ht) (getD_replicate_false _ _)⟩
    intro j oj _ hl
    rw [getD_replicate_false] at hl
    cases hl
  refine wp_region_any hm ?_
  have hh := headQ_lex (C := C) (md := .any) (g := l.toArray.size - n) hsel hs hc hn (l.take n) 0 _ a (fun j hj => by
    rw [hlen] at hj
    simp [hj]) (by simpa using hlen) inv (by rw [hlen]; exact hlex) h
  rw [hlen] at hh
  have := headQ_any (Q := Q) (g := l.toArray.size - n) (fun d a' w' hw' hL => by
    have := wpAny_of_seq (md := .any) (Q' := Q) (l.drop n) n d a' w' (fun j => by simp [List.getElem?_drop]) (by rw [hrest]; exact hL.1) (hL.2 w' hw')
    rwa [hrest] at this) n _ _ _ hC hh
  rw [show n + (l.toArray.size - n) = l.toArray.size by omega] at this
  exact this
end
/-- The same, in the class of worlds in which all that was there is as it was. -/
theorem wp_region_later_tail {P : Program} {id : Nat} {Q : Exit → Act → World → Prop} {a : Act} {w : World} {l : List Oper} (n : Nat) (hm : P.follows .mixedOrders = true) (hB : Region.lexTailB .any l.toArray n = true)
    (h : (∀ (u : Later w) (b o : Nat), b < w.heap.size → u.now.cell? ⟨b, o, none⟩ = w.cell? ⟨b, o, none⟩) →
      wpQuiet P l.toArray (fun w' => ∃ u : Later w, w' = u.now) (fun a' => ∀ w', Below w.heap.size w w' → wpList P l.toArray Q (l.drop n) a' w') (l.take n) a) : (Code.region id l.toArray true).wp P Q a w := by
  refine wp_region_quiet_tail (C := fun w' => ∃ u : Later w, w' = u.now) n hm hB ⟨⟨_, (Below.refl w.heap.size w).drew⟩, rfl⟩ ?_
  have h1 := h (fun u b o hb => u.still.cell (p := ⟨b, o, none⟩) hb)
  have e : (fun a' => ∀ w', (∃ u : Later w, w' = u.now) → wpList P l.toArray Q (l.drop n) a' w') = (fun a' => ∀ w', Below w.heap.size w w' → wpList P l.toArray Q (l.drop n) a' w') := by
    funext a'
    apply propext
    constructor
    · intro g w' hw'; exact g w' ⟨⟨w', hw'⟩, rfl⟩
    · rintro g w' ⟨u, rfl⟩; exact g _ u.still
  rw [e]
  exact h1
end Go.Proofs.Ytfpifahkpkjfgaa
/- A region that draws its order: quiet operations, one new variable that waits for nothing, and a tail (the store into it). -/
namespace Go.Proofs.Ytfpifahkpkjfgaa
open Go Go.RowKit
set_option linter.unusedVariables false

/-- all that was there in a is as it was -/
def Ab (a b : World) : Prop := Below a.heap.size a b
theorem Ab.same (a : World) : Ab a a := Below.refl _ _
theorem Ab.trans {a b c : World} (h : Ab a b) (k : Ab b c) : Ab a c := below_c h k
theorem Ab.alloc {a b : World} (h : Ab a b) (o : Obj) : Ab a (b.alloc o) := below_ca h o
section
variable {P : Program} {ops : Array Oper} {md : Region.Mode} {w0 : World}
/-- in every world from w0 on, the operation yields v, and leaves all that was there -/
def Gives (P : Program) (ops : Array Oper) (w0 : World) (o : Oper) (v : Value) (a : Act) : Prop := ∀ w1, Ab w0 w1 → YieldsIn P ops (Ab w1) o v a
def gOp (P : Program) (ops : Array Oper) (w0 : World) (i : Nat) (K : Act → Prop) (a : Act) : Prop := ∃ o v, ops[i]? = some o ∧ Gives P ops w0 o v a ∧ K (a.put o.dst v)
theorem gOp_mono {i : Nat} {K K' : Act → Prop} {a : Act} (h : ∀ a, K a → K' a) : gOp P ops w0 i K a → gOp P ops w0 i K' a := fun ⟨o, v, h1, h2, h3⟩ => ⟨o, v, h1, h2, h _ h3⟩
theorem Gives.put {oi oj : Oper} {v u : Value} {a : Act} (h : Gives P ops w0 oi v a) (hap : oi.apart ops oj = true) (hsi : ∀ cs b, oi.op ≠ .select cs b) : Gives P ops w0 oi v (a.put oj.dst u) := by
  obtain ⟨_, _, h3⟩ := Oper.apart_spec hap
  exact fun w1 hw => (h w1 hw).of_same (execOp_put oi hsi a oj.dst u h3) (wanted_put oi a oj.dst u h3)
theorem gOp_put {j : Nat} {oi oj : Oper} {v : Value} {K : Act → Prop} {a : Act} (hj : ops[j]? = some oj) (hap : oi.apart ops oj = true) (hsi : ∀ cs b, oi.op ≠ .select cs b) (hsj : ∀ cs b, oj.op ≠ .select cs b)
    (hy : Gives P ops w0 oi v a) (h : gOp P ops w0 j K (a.put oi.dst v)) : gOp P ops w0 j (fun a' => Gives P ops w0 oi v a' ∧ K (a'.put oi.dst v)) a := by
  obtain ⟨o, u, h1, h2, h3⟩ := h
  obtain rfl : o = oj := Option.some.inj (h1.symm.trans hj)
  obtain ⟨x1, x2, x3⟩ := Oper.apart_spec hap
  refine ⟨o, u, hj, fun w1 hw => (h2 w1 hw).of_same (execOp_put o hsj a oi.dst v x1).symm (wanted_put o a oi.dst v x1).symm, hy.put hap hsi, ?_⟩
  rw [← Act.put_comm a v u x2]
  exact h3
theorem wpOp_of_gOp {i : Nat} {a : Act} {K : Act → Prop} {K' : Act → World → Prop} {Q : Exit → Act → World → Prop} {w : World} (hw : Ab w0 w) (h : ∀ o v w', ops[i]? = some o → Ab w w' → K (a.put o.dst v) → K' (a.put o.dst v) w') (hh : gOp P ops w0 i K a) : wpOp P ops Q i K' a w := by
  obtain ⟨o, v, h1, h2, h3⟩ := hh
  have hq : qOp P ops (Ab w) i (fun a' => a' = a.put o.dst v) a := (h2 w hw).qOp h1 rfl
  exact wpOp_of_qOp (Ab.same w) (fun a' w' hw' e => by rw [e]; exact h o v w' h1 hw' h3) hq
/-- whatever is drawn; m makes the new variable, x is where it lies -/
def headA (P : Program) (md : Region.Mode) (ops : Array Oper) (w0 : World) (n m d : Nat) (L : Nat → Array Bool → Act → Prop) : Nat → Option Nat → Array Bool → Act → Prop
  | 0 => fun ox done a => ∃ x, ox = some x ∧ L x done a
  | f + 1 => fun ox done a => Region.ready md ops done ≠ [] ∧ ∀ i, i ∈ Region.ready md ops done → i < n ∧
      (if i = m then ∀ x, headA P md ops w0 n m d L f (some x) (done.setIfInBounds m true) (a.put (some d) (.pointer (some ⟨x, 0, none⟩))) else gOp P ops w0 i (headA P md ops w0 n m d L f ox (done.setIfInBounds i true)) a)
theorem eval_put_other {a : Act} {d e : Nat} {v : Value} (h : e ≠ d) : (a.put (some e) v).eval (.tmp d) = a.eval (.tmp d) :=
  Act.eval_put fun k hk hkd => by
    cases hk
    cases hkd
    exact h rfl
theorem getD_set_self (A : Array Bool) (m : Nat) : (A.setIfInBounds m true).getD m true = true := by
  by_cases h : m < A.size
  · simp [h]
  · simp [h]
theorem getD_set_stay {A : Array Bool} {m i : Nat} (h : A.getD m true = true) : (A.setIfInBounds i true).getD m true = true := by
  by_cases e : i = m
  · rw [e]; exact getD_set_self A m
  · rw [getD_set_ne true e]; exact h
theorem headA_any {n m d g : Nat} {om : Oper} {Z : Obj} {old : Value} {L : Nat → Array Bool → Act → Prop} {Q : Exit → Act → World → Prop} (hmo : ops[m]? = some om) (hmd : om.dst = some d) (hmw : om.guard = none)
    (hds : ∀ i o, i < n → i ≠ m → ops[i]? = some o → ∃ e, o.dst = some e ∧ e ≠ d)
    (hal : ∀ (a : Act) (w : World), Ab w0 w → a.eval (.tmp d) = old → (execOp a.eval om).run P w = .ok (.value (.pointer (some ⟨w.heap.size, 0, none⟩))) (w.alloc Z))
    (h : ∀ x done a w w1, Ab w0 w1 → w1.heap.size = x → Ab (w1.alloc Z) w → L x done a → wpAny P md ops Q g done a w) (f : Nat) :
    ∀ ox done a w, Ab w0 w → (ox = none → a.eval (.tmp d) = old) → (∀ x, ox = some x → done.getD m true = true ∧ ∃ w1, Ab w0 w1 ∧ w1.heap.size = x ∧ Ab (w1.alloc Z) w) → headA P md ops w0 n m d L f ox done a → wpAny P md ops Q (f + g) done a w := by
  induction f with
  | zero =>
    intro ox done a w hw h1 h2 ⟨x, hx, hl⟩
    obtain ⟨_, w1, k1, k2, k3⟩ := h2 x hx
    rw [Nat.zero_add]
    exact h x done a w w1 k1 k2 k3 hl
  | succ f ih =>
    intro ox done a w hw h1 h2 hh
    rw [show f + 1 + g = (f + g) + 1 by omega]
    refine ⟨fun h0 => absurd h0 hh.1, fun i hi => ?_⟩
    obtain ⟨hin, hstep⟩ := hh.2 i hi
    by_cases e : i = m
    · rw [if_pos e] at hstep
      subst e
      cases ox with
      | none =>
        unfold wpOp
        simp only [hmo]
        have hwt : Region.wanted om (yielded ops a.tmps) = true := by unfold Region.wanted; rw [hmw]
        rw [if_pos hwt]
        left
        unfold Oper.wp Oper.upon
        rw [hal a w hw (h1 rfl), hmd]
        refine ih (some w.heap.size) _ _ _ (hw.alloc Z) (fun hx => by cases hx) (fun x hx => ?_) (hstep _)
        injection hx with hx
        exact ⟨getD_set_self _ _, w, hw, hx, Ab.same _⟩
      | some x0 =>
        have h3 := (h2 x0 rfl).1
        rw [(mem_ready.1 hi).1] at h3
        cases h3
    · rw [if_neg e] at hstep
      refine wpOp_of_gOp hw (fun o v w' ho hw' hk => ?_) hstep
      obtain ⟨e', he', hne⟩ := hds i o hin e ho
      refine ih ox _ _ _ (hw.trans hw') (fun hx => ?_) (fun x hx => ?_) hk
      · rw [he', eval_put_other hne]; exact h1 hx
      · obtain ⟨k0, w1, k1, k2, k3⟩ := h2 x hx
        exact ⟨getD_set_stay k0, w1, k1, k2, k3.trans hw'⟩
theorem headA_swap {n m d i : Nat} {oi om : Oper} {v : Value} {L : Nat → Array Bool → Act → Prop} (hmo : ops[m]? = some om) (hmd : om.dst = some d) (him : i ≠ m) (hi : ops[i]? = some oi) (hsel : ∀ (j : Nat) (o : Oper) cs b, ops[j]? = some o → o.op ≠ .select cs b)
    (hs : Region.sinkB md ops n = true) (hc : Region.chainB md ops n = true) (hn : n < ops.size) (hin : i < n) (hL : ∀ x done a, L x done a → ∀ j, j ∈ Region.ready md ops done → n ≤ j) (f : Nat) :
    ∀ ox done a, HeadInv md ops n done → FreeOf md ops i oi done → i ∈ Region.ready md ops done → Gives P ops w0 oi v a →
      headA P md ops w0 n m d L f ox (done.setIfInBounds i true) (a.put oi.dst v) → headA P md ops w0 n m d L (f + 1) ox done a := by
  have low : ∀ done, HeadInv md ops n done → i ∈ Region.ready md ops done → ∀ j, j ∈ Region.ready md ops done → j < n := by
    intro done inv hr j hj
    by_cases h : j < n
    · exact h
    · exact absurd hj (tail_waits hs hc hn inv _ i rfl hin (mem_ready.1 hr).1 j (by omega))
  induction f with
  | zero =>
    intro ox done a inv hf hr hy hh
    refine ⟨fun h => (by rw [h] at hr; cases hr), fun j hj => ⟨low done inv hr j hj, ?_⟩⟩
    by_cases e : j = i
    · rw [e, if_neg him]; exact ⟨oi, v, hi, hy, hh⟩
    · obtain ⟨x, _, hl⟩ := hh
      exact absurd (hL x _ _ hl j (ready_mono hj e)) (by have := low done inv hr j hj; omega)
  | succ f ih =>
    intro ox done a inv hf hr hy hh
    refine ⟨fun h => (by rw [h] at hr; cases hr), fun j hj => ⟨low done inv hr j hj, ?_⟩⟩
    by_cases e : j = i
    · rw [e, if_neg him]; exact ⟨oi, v, hi, hy, hh⟩
    · obtain ⟨hun, oj, hoj, hall⟩ := mem_ready.1 hj
      have hnot : ∀ x ∈ oj.after, Region.binds md x = true → x.on ≠ i := by
        intro x hx hb hxi
        have h1 := hall x hx hb
        rw [hxi, getD_both (mem_ready.1 hr).1] at h1
        cases h1
      have hap := hf j oj hoj e hun hnot
      have hstep := (hh.2 j (ready_mono hj e)).2
      have inv' := inv.set hj (low done inv hr j hj)
      have hfr := hf.more hun
      have hrd := ready_mono hr (fun x => e x.symm)
      by_cases ejm : j = m
      · rw [if_pos ejm] at hstep ⊢
        subst ejm
        obtain rfl : oj = om := Option.some.inj (hoj.symm.trans hmo)
        intro x
        obtain ⟨x1, x2, x3⟩ := Oper.apart_spec hap
        have hx := hstep x
        rw [Array.setIfInBounds_comm _ _ (fun x => e x.symm)] at hx
        rw [← hmd] at hx ⊢
        rw [Act.put_comm a v _ x2] at hx
        exact ih (some x) _ _ inv' hfr hrd (hy.put hap (fun cs b => hsel i oi cs b hi)) hx
      · rw [if_neg ejm] at hstep ⊢
        refine gOp_mono (fun a' h3 => ?_) (gOp_put hoj hap (fun cs b => hsel i oi cs b hi) (fun cs b => hsel j oj cs b hoj) hy hstep)
        have hswap := h3.2
        rw [Array.setIfInBounds_comm _ _ (fun x => e x.symm)] at hswap
        exact ih ox _ a' inv' hfr hrd h3.1 hswap
theorem eval_put_same {a : Act} {e : Nat} {v : Value} (h : e < a.tmps.size) : (a.put (some e) v).eval (.tmp e) = v := by
  simp [Act.put, Act.eval, h]
theorem put_size (a : Act) (x : Option Nat) (v : Value) : (a.put x v).tmps.size = a.tmps.size := by
  cases x <;> simp [Act.put]
/-- each operation writes a slot of its own -/
def dstB (N : Nat) : List Oper → Bool
  | [] => true
  | o :: r => (match o.dst with | some e => decide (e < N) && r.all (fun p => p.dst != some e) | none => false) && dstB N r
theorem quiet_last {C : World → Prop} {F : Act} {e : Nat} : ∀ (l : List Oper) (b : Act), (∀ o ∈ l, o.dst ≠ some e) → wpQuiet P ops C (fun a' => a' = F) l b → F.eval (.tmp e) = b.eval (.tmp e)
  | [], b, _, h => by have : b = F := h; rw [this]
  | o :: r, b, hd, h => by
    have key : ∀ v, wpQuiet P ops C (fun a' => a' = F) r (b.put o.dst v) → F.eval (.tmp e) = b.eval (.tmp e) := by
      intro v hv
      rw [quiet_last r _ (fun p hp => hd p (List.mem_cons_of_mem _ hp)) hv]
      have := hd o (List.mem_cons_self ..)
      cases ho : o.dst with
      | none => rfl
      | some e' => exact eval_put_other (fun x => this (by rw [ho, x]))
    unfold wpQuiet at h
    split at h
    · obtain ⟨v, _, h2⟩ := h; exact key v h2
    · exact key _ h
theorem headA_lex {n m d g : Nat} {om : Oper} {F : Act} (hnm : n = m + 1) (hmo : ops[m]? = some om) (hmd : om.dst = some d) (hsel : Region.noSelect ops = true) (hs : Region.sinkB md ops n = true) (hc : Region.chainB md ops n = true) (hn : n < ops.size) (l : List Oper) :
    ∀ (k : Nat) (done : Array Bool) (a : Act), (∀ j, j < l.length → l[j]? = ops[k + j]?) → k + l.length = m → HeadInv md ops n done → (∀ i, i < k → done.getD i true = true) →
    Region.lexHead md ops g (l.length + 1) k done = true → dstB a.tmps.size l = true → (∀ w1, Ab w0 w1 → wpQuiet P ops (Ab w1) (fun a' => a' = F) l a) →
    headA P md ops w0 n m d (fun x dn a' => Region.seqB md ops g n dn = true ∧ a' = F.put (some d) (.pointer (some ⟨x, 0, none⟩))) (l.length + 1) none done a := by
  induction l with
  | nil =>
    intro k done a _ hk inv hdn hB _ hq
    obtain rfl : k = m := by simpa using hk
    simp only [List.length_nil, Region.lexHead, Bool.and_eq_true] at hB
    have hr : k ∈ Region.ready md ops done := by simpa using hB.1.1
    have haF : a = F := hq w0 (Ab.same _)
    have hB2 := hB.2
    refine ⟨fun h => (by rw [h] at hr; cases hr), fun i hi => ?_⟩
    have hun := (mem_ready.1 hi).1
    have hin : i < n := by
      by_cases h : i < n
      · exact h
      · exact absurd hi (tail_waits hs hc hn inv _ k rfl (by omega) (mem_ready.1 hr).1 i (by omega))
    have hik : i = k := by
      by_cases h : i < k
      · rw [hdn i h] at hun; cases hun
      · omega
    refine ⟨hin, ?_⟩
    rw [if_pos hik]
    intro x
    refine ⟨x, rfl, ?_, by rw [haF]⟩
    rw [hnm]
    exact hB2
  | cons o l ih =>
    intro k done a hl hk inv hdn hB hD hq
    have h0 : ops[k]? = some o := by have := hl 0 (by simp); simpa using this.symm
    have hB0 := hB
    rw [List.length_cons, Region.lexHead] at hB
    simp only [Bool.and_eq_true] at hB
    have hkm : k < m := by simp only [List.length_cons] at hk; omega
    have hr : k ∈ Region.ready md ops done := by simpa using hB.1.1
    simp only [dstB, Bool.and_eq_true] at hD
    obtain ⟨hD1, hD2⟩ := hD
    obtain ⟨e, he, hlt, hnot⟩ : ∃ e, o.dst = some e ∧ e < a.tmps.size ∧ ∀ p ∈ l, p.dst ≠ some e := by
      cases ho : o.dst with
      | none => rw [ho] at hD1; cases hD1
      | some e =>
        rw [ho] at hD1
        simp only [Bool.and_eq_true, decide_eq_true_eq, List.all_eq_true, bne_iff_ne] at hD1
        exact ⟨e, rfl, hD1.1, hD1.2⟩
    have hval : ∀ w1, Ab w0 w1 → YieldsIn P ops (Ab w1) o (F.eval (.tmp e)) a ∧ wpQuiet P ops (Ab w1) (fun a' => a' = F) l (a.put o.dst (F.eval (.tmp e))) := by
      intro w1 hw1
      have h1 : qOp P ops (Ab w1) k (wpQuiet P ops (Ab w1) (fun a' => a' = F) l) a := by unfold qOp; simp only [h0]; exact hq w1 hw1
      obtain ⟨v, hy, hK⟩ := yieldsIn_of_qOp h0 h1
      have hv := quiet_last l _ hnot hK
      rw [he, eval_put_same hlt] at hv
      rw [hv]
      exact ⟨hy, hK⟩
    refine headA_swap hmo hmd (by omega) h0 (Region.noSelect_spec hsel) hs hc hn (by omega) (fun x dn a' hx => seqB_ready hx.1) (l.length + 1) none done a inv (Region.free_spec h0 hB.1.2) hr (fun w1 hw1 => (hval w1 hw1).1) ?_
    refine ih (k + 1) _ _ (fun j hj => ?_) (by simp only [List.length_cons] at hk; omega) (inv.set hr (by omega)) (fun i hi => ?_) hB.2 (by rw [put_size]; exact hD2) (fun w1 hw1 => (hval w1 hw1).2)
    · have := hl (j + 1) (by simp only [List.length_cons]; omega)
      rw [show k + 1 + j = k + (j + 1) by omega]
      simpa using this
    · by_cases e2 : i = k
      · rw [e2]; exact getD_set_self _ _
      · exact getD_set_stay (hdn i (by omega))
/-- m quiet operations in whatever order, a new variable at whatever time, then the tail -/
theorem wp_region_alloc_tail {id : Nat} {Q : Exit → Act → World → Prop} {a : Act} {w : World} {l : List Oper} (m d : Nat) (om : Oper) (Z : Obj) (F : Act) (hm : P.follows .mixedOrders = true) (hB : Region.lexTailB .any l.toArray (m + 1) = true)
    (hmo : l.toArray[m]? = some om) (hmd : om.dst = some d) (hmg : om.guard = none) (hD : (dstB a.tmps.size (l.take m) && (l.take m).all (fun p => p.dst != some d)) = true)
    (hal : ∀ (a' : Act) (w' : World), Ab w w' → a'.eval (.tmp d) = a.eval (.tmp d) → (execOp a'.eval om).run P w' = .ok (.value (.pointer (some ⟨w'.heap.size, 0, none⟩))) (w'.alloc Z))
    (hq : ∀ w1, Ab w w1 → wpQuiet P l.toArray (Ab w1) (fun a' => a' = F) (l.take m) a)
    (ht : ∀ w1 w', Ab w w1 → Ab (w1.alloc Z) w' → wpList P l.toArray Q (l.drop (m + 1)) (F.put (some d) (.pointer (some ⟨w1.heap.size, 0, none⟩))) w') : (Code.region id l.toArray true).wp P Q a w := by
  simp only [Region.lexTailB, Bool.and_eq_true, decide_eq_true_eq] at hB
  obtain ⟨⟨⟨⟨hsel, hn⟩, hs⟩, hc⟩, hlex⟩ := hB
  simp only [Bool.and_eq_true, List.all_eq_true, bne_iff_ne] at hD
  have hnl : m + 1 < l.length := by simpa using hn
  have hlen : (l.take m).length = m := by rw [List.length_take]; omega
  have hrest : (l.drop (m + 1)).length = l.toArray.size - (m + 1) := by simp
  have inv : HeadInv .any l.toArray (m + 1) (Array.replicate l.toArray.size false) := by
    refine ⟨by simp, ?_, fun t _ ht => getD_in (by simpa using ht) (getD_replicate_false _ _)⟩
    intro j oj _ hl
    rw [getD_replicate_false] at hl
    cases hl
  refine wp_region_any hm ?_
  have hwd : Ab w { w with drawn := w.drawn + 1 } := (Below.refl w.heap.size w).drew
  have hh := headA_lex (w0 := w) (md := .any) (g := l.toArray.size - (m + 1)) (n := m + 1) (m := m) (d := d) (F := F) rfl hmo hmd hsel hs hc hn (l.take m) 0 _ a (fun j hj => by
    rw [hlen] at hj
    simp [hj]) (by simpa using hlen) inv (fun i hi => by omega) (by rw [hlen]; exact hlex) hD.1 hq
  rw [hlen] at hh
  have hds : ∀ i o, i < m + 1 → i ≠ m → l.toArray[i]? = some o → ∃ e, o.dst = some e ∧ e ≠ d := by
    intro i o hi hne ho
    have hil : i < m := by omega
    have hmem : o ∈ l.take m := by
      have h1 : (l.take m)[i]? = some o := by rw [List.getElem?_take, if_pos hil]; simpa using ho
      exact List.mem_of_getElem? h1
    have h2 := hD.2 o hmem
    have h3 : ∀ (r : List Oper), dstB a.tmps.size r = true → o ∈ r → o.dst ≠ none := by
      intro r
      induction r with
      | nil => intro _ h; cases h
      | cons p r ih =>
        intro hb hmr
        simp only [dstB, Bool.and_eq_true] at hb
        rcases List.mem_cons.1 hmr with rfl | hmr
        · intro hx; rw [hx] at hb; cases hb.1
        · exact ih hb.2 hmr
    cases ho2 : o.dst with
    | none => exact absurd ho2 (h3 _ hD.1 hmem)
    | some e => exact ⟨e, rfl, fun x => h2 (by rw [ho2, x])⟩
  have := headA_any (Q := Q) (Z := Z) (old := a.eval (.tmp d)) (g := l.toArray.size - (m + 1)) hmo hmd hmg hds (fun a' w' hw he => hal a' w' hw he) (fun x dn a' w' w1 k1 k2 k3 hL => by
    have := wpAny_of_seq (P := P) (ops := l.toArray) (md := .any) (Q' := Q) (l.drop (m + 1)) (m + 1) dn a' w' (fun j => by simp [List.getElem?_drop]) (by rw [hrest]; exact hL.1) (by rw [hL.2, ← k2]; exact ht w1 w' k1 k3)
    rwa [hrest] at this) (m + 1) none _ a _ hwd (fun _ => rfl) (fun x hx => by cases hx) hh
  rw [show m + 1 + (l.toArray.size - (m + 1)) = l.toArray.size by omega] at this
  exact this
/-- The same, the walk of the quiet operations in the words that the walk reads. -/
theorem wp_region_alloc_later {id : Nat} {Q : Exit → Act → World → Prop} {a : Act} {w : World} {l : List Oper} (m d : Nat) (om : Oper) (Z : Obj) (hm : P.follows .mixedOrders = true) (hB : Region.lexTailB .any l.toArray (m + 1) = true)
    (hmo : l.toArray[m]? = some om) (hmd : om.dst = some d) (hmg : om.guard = none) (hD : (dstB a.tmps.size (l.take m) && (l.take m).all (fun p => p.dst != some d)) = true)
    (hal : ∀ (a' : Act) (w' : World), (execOp a'.eval om).run P w' = .ok (.value (.pointer (some ⟨w'.heap.size, 0, none⟩))) (w'.alloc Z))
    (h : ∃ F : Act, (∀ w1, Below w.heap.size w w1 → (∀ (u : Later w1) (b o : Nat), b < w1.heap.size → u.now.cell? ⟨b, o, none⟩ = w1.cell? ⟨b, o, none⟩) → wpQuiet P l.toArray (fun w' => ∃ u : Later w1, w' = u.now) (fun a' => a' = F) (l.take m) a) ∧
      (∀ w1 w', Below w.heap.size w w1 → Below (w1.alloc Z).heap.size (w1.alloc Z) w' → wpList P l.toArray Q (l.drop (m + 1)) (F.put (some d) (.pointer (some ⟨w1.heap.size, 0, none⟩))) w')) : (Code.region id l.toArray true).wp P Q a w := by
  obtain ⟨F, hq, ht⟩ := h
  refine wp_region_alloc_tail m d om Z F hm hB hmo hmd hmg hD (fun a' w' _ _ => hal a' w') (fun w1 hw1 => ?_) ht
  have h1 := hq w1 hw1 (fun u b o hb => u.still.cell (p := ⟨b, o, none⟩) hb)
  have e : (fun w' => ∃ u : Later w1, w' = u.now) = Ab w1 := by
    funext w'
    apply propext
    constructor
    · rintro ⟨u, rfl⟩; exact u.still
    · intro h; exact ⟨⟨w', h⟩, rfl⟩
  rw [e] at h1
  exact h1
end
end Go.Proofs.Ytfpifahkpkjfgaa
