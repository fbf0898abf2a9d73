/- What UConnStream needs, a part: QTail, QAlloc, QMix, Sl, Hand, SlR, CnTk, WinS. -/
import Derived.StillTail
import Derived.Deep.Quiet
import Derived.Lib.SliceRun
import Derived.Lib.AppendStr
import Derived.Test.YtfpifahkpkjfgaaMZ
import Derived.Test.YtfpifahkpkjfgaaMUConnStream1
import Derived.Test.YtfpifahkpkjfgaaMUConnStream2
import Derived.Test.YtfpifahkpkjfgaaMUConnStream3
/- A region that draws its order: a head of quiet operations (reads; calls that leave a world of a class), then a tail in one forced order. Whatever order is drawn for the head, the tail begins in one frame, in some world of the class. -/
namespace Go.Proofs.Ytfpifahkpkjfgaa
open Go Go.RowKit
set_option linter.unusedVariables false
section
variable {P : Program} {ops : Array Oper} {md : Region.Mode} {C : World → Prop}
/-- whatever head operation is drawn, f times; then L -/
def headQ (P : Program) (md : Region.Mode) (ops : Array Oper) (C : World → Prop) (n : Nat) (L : Array Bool → Act → Prop) : Nat → Array Bool → Act → Prop
 | 0 => L
 | f + 1 => fun done a => Region.ready md ops done ≠ [] ∧ ∀ i, i ∈ Region.ready md ops done → i < n ∧ qOp P ops C i (headQ P md ops C n L f (done.setIfInBounds i true)) a
theorem headQ_any {n g : Nat} {L : Array Bool → Act → Prop} {Q : Exit → Act → World → Prop} (h : ∀ done a w, C w → L done a → wpAny P md ops Q g done a w) (f : Nat) :
    ∀ done a w, C w → headQ P md ops C n L f done a → wpAny P md ops Q (f + g) done a w := by
  induction f with
  | zero => intro done a w hw hh; rw [Nat.zero_add]; exact h done a w hw hh
  | succ f ih =>
    intro done a w hw hh
    have e : f + 1 + g = (f + g) + 1 := by omega
    rw [e]
    constructor
    · intro h0; exact absurd h0 hh.1
    · intro i hi; exact wpOp_of_qOp hw (fun a' w' hw' k => ih _ a' w' hw' k) (hh.2 i hi).2
/-- what is free of i, and not yet done, may be done ahead of i -/
def FreeOf (md : Region.Mode) (ops : Array Oper) (i : Nat) (oi : Oper) (done : Array Bool) : Prop :=
 ∀ j oj, ops[j]? = some oj → j ≠ i → done.getD j true = false → (∀ e ∈ oj.after, Region.binds md e = true → e.on ≠ i) → oi.apart ops oj = true
theorem FreeOf.more {i j : Nat} {oi : Oper} {done : Array Bool} (h : FreeOf md ops i oi done) (hj : done.getD j true = false) : FreeOf md ops i oi (done.setIfInBounds j true) := by
 intro k ok hk hki hun hno
 refine h k ok hk hki ?_ hno
 by_cases e : j = k
 ·rw [← e]; exact hj
 ·rwa [getD_set_ne true e] at hun
theorem headQ_swap {n i : Nat} {oi : Oper} {v : Value} {L : Array Bool → Act → Prop} (hi : ops[i]? = some oi) (hsel : ∀ (j : Nat) (o : Oper) cs b, ops[j]? = some o → o.op ≠ .select cs b)
    (hs : Region.sinkB md ops n = true) (hc : Region.chainB md ops n = true) (hn : n < ops.size) (hin : i < n) (hL : ∀ done a, L done a → ∀ j, j ∈ Region.ready md ops done → n ≤ j) (f : Nat) :
    ∀ done a, HeadInv md ops n done → FreeOf md ops i oi done → i ∈ Region.ready md ops done → YieldsIn P ops C oi v a →
      headQ P md ops C n L f (done.setIfInBounds i true) (a.put oi.dst v) → headQ P md ops C n L (f + 1) done a := by
  have low : ∀ done, HeadInv md ops n done → i ∈ Region.ready md ops done → ∀ j, j ∈ Region.ready md ops done → j < n := by
    intro done inv hr j hj
    by_cases h : j < n
    · exact h
    · exact absurd hj (tail_waits hs hc hn inv _ i rfl hin (mem_ready.1 hr).1 j (by omega))
  induction f with
  | zero =>
    intro done a inv hf hr hy hh
    refine ⟨fun h => (by rw [h] at hr; cases hr), fun j hj => ⟨low done inv hr j hj, ?_⟩⟩
    by_cases e : j = i
    · rw [e]; exact hy.qOp hi hh
    · exact absurd (hL _ _ hh j (ready_mono hj e)) (by have := low done inv hr j hj; omega)
  | succ f ih =>
    intro done a inv hf hr hy hh
    refine ⟨fun h => (by rw [h] at hr; cases hr), fun j hj => ⟨low done inv hr j hj, ?_⟩⟩
    by_cases e : j = i
    · rw [e]; exact hy.qOp hi hh
    · obtain ⟨hun, oj, hoj, hall⟩ := mem_ready.1 hj
      have hnot : ∀ x ∈ oj.after, Region.binds md x = true → x.on ≠ i := by
        intro x hx hb hxi
        have h1 := hall x hx hb
        rw [hxi, getD_both (mem_ready.1 hr).1] at h1
        cases h1
      have hap := hf j oj hoj e hun hnot
      have hq := qOp_put (C := C) hoj hap (fun cs b => hsel i oi cs b hi) (fun cs b => hsel j oj cs b hoj) hy (hh.2 j (ready_mono hj e)).2
      refine qOp_mono (fun a' h3 => ?_) hq
      have hswap := h3.2
      rw [Array.setIfInBounds_comm _ _ (fun x => e x.symm)] at hswap
      exact ih _ a' (inv.set hj (low done inv hr j hj)) (hf.more hun) (ready_mono hr (fun x => e x.symm)) h3.1 hswap
theorem headQ_lex {n g : Nat} {Lq : Act → Prop} (hsel : Region.noSelect ops = true) (hs : Region.sinkB md ops n = true) (hc : Region.chainB md ops n = true) (hn : n < ops.size) (l : List Oper) :
    ∀ (k : Nat) (done : Array Bool) (a : Act), (∀ j, j < l.length → l[j]? = ops[k + j]?) → k + l.length = n → HeadInv md ops n done →
    Region.lexHead md ops g l.length k done = true → wpQuiet P ops C Lq l a → headQ P md ops C n (fun d a' => Region.seqB md ops g n d = true ∧ Lq a') l.length done a := by
  induction l with
  | nil =>
    intro k done a _ hk _ hB h
    obtain rfl : k = n := by simpa using hk
    exact ⟨by simpa [Region.lexHead] using hB, h⟩
  | cons o l ih =>
    intro k done a hl hk inv hB h
    have h0 : ops[k]? = some o := by have := hl 0 (by simp); simpa using this.symm
    simp only [List.length_cons, Region.lexHead, Bool.and_eq_true] at hB
    have hkn : k < n := by simp only [List.length_cons] at hk; omega
    have hr : k ∈ Region.ready md ops done := by simpa using hB.1.1
    have hq : qOp P ops C k (wpQuiet P ops C Lq l) a := by unfold qOp; simp only [h0]; exact h
    obtain ⟨v, hy, hK⟩ := yieldsIn_of_qOp h0 hq
    refine headQ_swap h0 (Region.noSelect_spec hsel) hs hc hn hkn (fun d a' hd => seqB_ready hd.1) l.length done a inv (Region.free_spec h0 hB.1.2) hr hy ?_
    refine ih (k + 1) _ _ (fun j hj => ?_) (by simp only [List.length_cons] at hk; omega) (inv.set hr hkn) hB.2 hK
    have := hl (j + 1) (by simp only [List.length_cons]; omega)
    rw [show k + 1 + j = k + (j + 1) by omega]
    simpa using this
theorem wp_region_quiet_tail {id : Nat} {Q : Exit → Act → World → Prop} {a : Act} {w : World} {l : List Oper} (n : Nat) (hm : P.follows .mixedOrders = true) (hB : Region.lexTailB .any l.toArray n = true)
  (hC : C { w with drawn := w.drawn + 1 }) (h : wpQuiet P l.toArray C (fun a' => ∀ w', C w' → wpList P l.toArray Q (l.drop n) a' w') (l.take n) a) : (Code.region id l.toArray true).wp P Q a w := by
 simp only [Region.lexTailB, Bool.and_eq_true, decide_eq_true_eq] at hB
 obtain ⟨⟨⟨⟨hsel, hn⟩, hs⟩, hc⟩, hlex⟩ := hB
 have hnl : n < l.length := by simpa using hn
 have hlen : (l.take n).length = n := by rw [List.length_take]; omega
 have hrest : (l.drop n).length = l.toArray.size - n := by simp
 have inv : HeadInv .any l.toArray n (Array.replicate l.toArray.size false) := by
  refine ⟨by simp, ?_, fun t _ ht => getD_in (by simpa using ht) (getD_replicate_false _ _)⟩
  intro j oj _ hl
  rw [getD_replicate_false] at hl
  cases hl
 refine wp_region_any hm ?_
 have hh := headQ_lex (C := C) (md := .any) (g := l.toArray.size - n) hsel hs hc hn (l.take n) 0 _ a (fun j hj => by
  rw [hlen] at hj
  simp [hj]) (by simpa using hlen) inv (by rw [hlen]; exact hlex) h
 rw [hlen] at hh
 have := headQ_any (Q := Q) (g := l.toArray.size - n) (fun d a' w' hw' hL => by
  have := wpAny_of_seq (md := .any) (Q' := Q) (l.drop n) n d a' w' (fun j => by simp [List.getElem?_drop]) (by rw [hrest]; exact hL.1) (hL.2 w' hw')
  rwa [hrest] at this) n _ _ _ hC hh
 rw [show n + (l.toArray.size - n) = l.toArray.size by omega] at this
 exact this
end
/-- The same, in the class of worlds in which all that was there is as it was. -/
theorem wp_region_later_tail {P : Program} {id : Nat} {Q : Exit → Act → World → Prop} {a : Act} {w : World} {l : List Oper} (n : Nat) (hm : P.follows .mixedOrders = true) (hB : Region.lexTailB .any l.toArray n = true)
  (h : (∀ (u : Later w) (b o : Nat), b < w.heap.size → u.now.cell? ⟨b, o, none⟩ = w.cell? ⟨b, o, none⟩) →
   wpQuiet P l.toArray (fun w' => ∃ u : Later w, w' = u.now) (fun a' => ∀ w', Below w.heap.size w w' → wpList P l.toArray Q (l.drop n) a' w') (l.take n) a) : (Code.region id l.toArray true).wp P Q a w := by
 refine wp_region_quiet_tail (C := fun w' => ∃ u : Later w, w' = u.now) n hm hB ⟨⟨_, (Below.refl w.heap.size w).drew⟩, rfl⟩ ?_
 have h1 := h (fun u b o hb => u.still.cell (p := ⟨b, o, none⟩) hb)
 have e : (fun a' => ∀ w', (∃ u : Later w, w' = u.now) → wpList P l.toArray Q (l.drop n) a' w') = (fun a' => ∀ w', Below w.heap.size w w' → wpList P l.toArray Q (l.drop n) a' w') := by
  funext a'
  apply propext
  constructor
  ·intro g w' hw'; exact g w' ⟨⟨w', hw'⟩, rfl⟩
  ·rintro g w' ⟨u, rfl⟩; exact g _ u.still
 rw [e]
 exact h1
end Go.Proofs.Ytfpifahkpkjfgaa
/- A region that draws its order: quiet operations, one new variable that waits for nothing, and a tail (the store into it). -/
namespace Go.Proofs.Ytfpifahkpkjfgaa
open Go Go.RowKit
set_option linter.unusedVariables false
/-- all that was there in a is as it was -/
def Ab (a b : World) : Prop := Below a.heap.size a b
theorem Ab.same (a : World) : Ab a a := Below.refl _ _
theorem Ab.trans {a b c : World} (h : Ab a b) (k : Ab b c) : Ab a c := below_c h k
theorem Ab.alloc {a b : World} (h : Ab a b) (o : Obj) : Ab a (b.alloc o) := below_ca h o
section
variable {P : Program} {ops : Array Oper} {md : Region.Mode} {w0 : World}
/-- in every world from w0 on, the operation yields v, and leaves all that was there -/
def Gives (P : Program) (ops : Array Oper) (w0 : World) (o : Oper) (v : Value) (a : Act) : Prop := ∀ w1, Ab w0 w1 → YieldsIn P ops (Ab w1) o v a
theorem Gives.put {oi oj : Oper} {v u : Value} {a : Act} (h : Gives P ops w0 oi v a) (hap : oi.apart ops oj = true) (hsi : ∀ cs b, oi.op ≠ .select cs b) : Gives P ops w0 oi v (a.put oj.dst u) := by
 obtain ⟨_, _, h3⟩ := Oper.apart_spec hap
 exact fun w1 hw => (h w1 hw).of_same (execOp_put oi hsi a oj.dst u h3) (wanted_put oi a oj.dst u h3)
end
end Go.Proofs.Ytfpifahkpkjfgaa
/- A region that draws its order: quiet operations (reads; calls that leave what was there), new variables, and stores of whole values into variables of the call's own, in whatever order they come up. -/
namespace Go.Proofs.Ytfpifahkpkjfgaa
open Go Go.RowKit
set_option linter.unusedVariables false
/-- Mem, its things under numbers of one's own -/
structure MemF (E : Nat → Prop) (w W : World) (X : Nat → Option Res) : Prop where
 fr : Fr E w W
 p : ∀ i r, X i = some r → r.P W
 s : ∀ i r, X i = some r → r.Stab
 lo : ∀ i r, X i = some r → ∀ g, r.blk = some g → (w.heap.size ≤ g ∨ E g) ∧ g < W.heap.size
 ne : ∀ (i j : Nat), i ≠ j → ∀ (r q : Res), X i = some r → X j = some q → ∀ g, r.blk = some g → q.blk ≠ some g
def updF (X : Nat → Option Res) (i : Nat) (r : Res) : Nat → Option Res := fun j => if j = i then some r else X j
theorem updF_other (X : Nat → Option Res) {i j : Nat} (h : j ≠ i) (r : Res) : updF X i r j = X j := by unfold updF; rw [if_neg h]
theorem updF_same (X : Nat → Option Res) (i : Nat) (r : Res) : updF X i r i = some r := by unfold updF; rw [if_pos rfl]
section
variable {E : Nat → Prop} {w W W' : World} {X : Nat → Option Res} {r r' : Res} {l : List Res}
theorem MemF.kept (h : MemF E w W X) (hb : Below W.heap.size W W') : MemF E w W' X :=
 ⟨h.fr.kept hb, fun i r hr => h.s i r hr W W' (h.p i r hr) hb.size (fun g hg => hb.block g (h.lo i r hr g hg).2), h.s, fun i r hr g hg => ⟨(h.lo i r hr g hg).1, Nat.lt_of_lt_of_le (h.lo i r hr g hg).2 hb.size⟩, h.ne⟩
/-- one of them turns, or comes new -/
theorem MemF.put (h : MemF E w W X) (k : Nat) (b : Option Nat) (hb : ∀ g, b = some g → ∃ r, X k = some r ∧ r.blk = some g) (hO : W.grownBy W' b) (hs : r'.Stab) (hp : r'.P W') (hn : ∀ g, r'.blk = some g → (b = some g ∨ W.heap.size ≤ g) ∧ g < W'.heap.size) : MemF E w W' (updF X k r') := by
 have e : ∀ (m : Nat) (x : Res), updF X k r' m = some x → (m ≠ k ∧ X m = some x) ∨ (m = k ∧ x = r') := by
  intro m x hx
  by_cases hm : m = k
  ·subst hm
   rw [updF_same] at hx
   exact .inr ⟨rfl, (Option.some.inj hx).symm⟩
  ·rw [updF_other X hm] at hx; exact .inl ⟨hm, hx⟩
 have old : ∀ (m : Nat) (x : Res), m ≠ k → X m = some x → ∀ g, x.blk = some g → W'.heap[g]? = W.heap[g]? := by
  intro m x hm hx g hg
  refine hO.block g (h.lo m x hx g hg).2 (fun e2 => ?_)
  obtain ⟨r, hr, hrg⟩ := hb g e2.symm
  exact h.ne m k hm x r hx hr g hg hrg
 refine ⟨h.fr.grown hO (fun j hj => by obtain ⟨r, hr, hrg⟩ := hb j hj; exact (h.lo k r hr j hrg).1), ?_, ?_, ?_, ?_⟩
 ·intro m x hm
  rcases e m x hm with ⟨h1, h2⟩ | ⟨h1, rfl⟩
  ·exact h.s m x h2 W W' (h.p m x h2) hO.size (old m x h1 h2)
  ·exact hp
 ·intro m x hm
  rcases e m x hm with ⟨h1, h2⟩ | ⟨h1, rfl⟩
  ·exact h.s m x h2
  ·exact hs
 ·intro m x hm g hg
  rcases e m x hm with ⟨h1, h2⟩ | ⟨h1, rfl⟩
  ·have := h.lo m x h2 g hg
   exact ⟨this.1, Nat.lt_of_lt_of_le this.2 hO.size⟩
  ·refine ⟨?_, (hn g hg).2⟩
   rcases (hn g hg).1 with h3 | h3
   ·obtain ⟨r, hr, hrg⟩ := hb g h3; exact (h.lo k r hr g hrg).1
   ·exact .inl (Nat.le_trans h.fr.size h3)
 ·intro i j hij a q hi hj g hg
  rcases e i a hi with ⟨h1, h2⟩ | ⟨h1, rfl⟩
  ·rcases e j q hj with ⟨h3, h4⟩ | ⟨h3, rfl⟩
   ·exact h.ne i j hij a q h2 h4 g hg
   ·intro e2
    have hlo := (h.lo i a h2 g hg).2
    rcases (hn g e2).1 with h5 | h5
    ·obtain ⟨r, hr, hrg⟩ := hb g h5; exact h.ne i k h1 a r h2 hr g hg hrg
    ·omega
  ·rcases e j q hj with ⟨h3, h4⟩ | ⟨h3, rfl⟩
   ·intro e2
    have hlo := (h.lo j q h4 g e2).2
    rcases (hn g hg).1 with h5 | h5
    ·obtain ⟨r, hr, hrg⟩ := hb g h5; exact h.ne k j (fun x => h3 x.symm) r q hr h4 g hrg e2
    ·omega
   ·omega
end
/-- the kinds of operations: quiet, with its value; a new variable; a store into a variable that is known under number m -/
inductive MKd
 | q (v : Value)
 | al (T : TypeId) (Z : List Value)
 | st (m : Nat) (T : TypeId) (cs : List Value)
section
variable {E : Nat → Prop} {P : Program} {ops : Array Oper} {md : Region.Mode} {w0 : World} {C0 : World → Prop}
/-- in every world of the class the operation yields v, and leaves all that is there -/
def GivesC (P : Program) (ops : Array Oper) (C0 : World → Prop) (o : Oper) (v : Value) (a : Act) : Prop := ∀ w1, C0 w1 → YieldsIn P ops (Ab w1) o v a
theorem GivesC.put {oi oj : Oper} {v u : Value} {a : Act} (h : GivesC P ops C0 oi v a) (hap : ∀ d, oj.dst = some d → d ∉ oi.looksAt ops) (hsi : ∀ cs b, oi.op ≠ .select cs b) : GivesC P ops C0 oi v (a.put oj.dst u) :=
 fun w1 hw => (h w1 hw).of_same (execOp_put oi hsi a oj.dst u hap) (wanted_put oi a oj.dst u hap)
/-- what a store asks -/
structure StoreOk (P : Program) (ops : Array Oper) (o : Oper) (g : Nat) (T : TypeId) (cs : List Value) (a : Act) : Prop where
 dst : o.dst = none
 gd : o.guard = none
 run : ∃ p y, o.op = .store T p y ∧ a.eval p = .pointer (some ⟨g, 0, none⟩) ∧ (a.eval y).cells = cs.toArray
 sz : (P.info? T).map (·.size) = some cs.length
 one : cs.all (·.oneCell') = true
theorem looks_store {o : Oper} {T : TypeId} {p y : Operand} (h : o.op = .store T p y) {d : Nat} (hd : p = .tmp d ∨ y = .tmp d) : d ∈ o.looksAt ops := by
 refine List.mem_append_left _ (List.mem_filterMap.2 ⟨.tmp d, ?_, rfl⟩)
 rcases hd with hd | hd <;> simp [h, Op.operands, hd]
theorem StoreOk.move {o oj : Oper} {g : Nat} {T : TypeId} {cs : List Value} {a : Act} {u : Value} (h : StoreOk P ops o g T cs a) (hap : ∀ d, oj.dst = some d → d ∉ o.looksAt ops) : StoreOk P ops o g T cs (a.put oj.dst u) := by
 obtain ⟨h1, h2, ⟨p, y, h3, h4, h5⟩, h6, h7⟩ := h
 exact ⟨h1, h2, ⟨p, y, h3, by rw [Act.eval_put fun d hd hpd => hap d hd (looks_store h3 (.inl hpd))]; exact h4, by rw [Act.eval_put fun d hd hpd => hap d hd (looks_store h3 (.inr hpd))]; exact h5⟩, h6, h7⟩
theorem At.fill {w : World} {g : Nat} {t : TypeId} {c cs : List Value} (hA : At w g t c) (hl : c.length = cs.length) : At (w.setCells g 0 cs) g t cs := by
  have hblk : ∀ (vs : List Value) (o : Nat) (X : World) (c : List Value), At X g t c → ∃ c', At (X.setCells g o vs) g t c' ∧ c'.length = c.length := by
    intro vs
    induction vs with
    | nil => intro o X c hc; exact ⟨c, hc, rfl⟩
    | cons v r ih =>
      intro o X c hc
      obtain ⟨c', h1, h2⟩ := ih (o + 1) _ _ (hc.set_ o v)
      exact ⟨c', h1, by rw [h2, List.length_set]⟩
  obtain ⟨c', h2, h3⟩ := hblk cs 0 w c hA
  have ht : w.there g 0 cs.length := fun j hj => ⟨by rw [Nat.zero_add, hA.cell, List.getElem?_eq_getElem (by omega)]; rfl, hA.free _⟩
  have e : c' = cs := by
    refine List.ext_getElem (by omega) fun j hj hj' => ?_
    have a1 := h2.cell j
    have a2 := World.rangeAt_setCells_same w g 0 cs ht j cs[j] (by simp)
    rw [Nat.zero_add, a1, List.getElem?_eq_getElem hj] at a2
    exact Option.some.inj a2
  rw [e] at h2
  exact h2
end
section
variable {E : Nat → Prop} {P : Program} {l : List Oper} {w0 : World} {C0 : World → Prop} {L : (Nat → Option Res) → Act → Prop}
end
end Go.Proofs.Ytfpifahkpkjfgaa
/- What package slices does to a row of one's own: an element taken out, the spare cells cleared. -/
namespace Go.Proofs.Ytfpifahkpkjfgaa
open Go.RowKit
set_option linter.unusedVariables false
section
variable {P : Program} {w w' : World} {base size g off cap n : Nat} {cs : List Value}
end
section
variable {P : Program} {w : World} {ops : Array Oper} {rest : List Oper} {o : Oper} {a : Act} {Q : Exit → Act → World → Prop}
end
end Go.Proofs.Ytfpifahkpkjfgaa
/- What a call is handed of what is known (the first things of the list), and what comes back. -/
namespace Go.Proofs.Ytfpifahkpkjfgaa
open Go.RowKit
set_option linter.unusedVariables false
/-- the blocks of these things -/
def blkE (a : List Res) : Nat → Prop := fun g => ∃ r ∈ a, r.blk = some g
section
variable {E : Nat → Prop} {w W W' : World} {a b a' : List Res}
theorem MemX.hand (h : MemX E w W (a ++ b)) : MemX (blkE a) W W a := by
 refine ⟨Fr.refl _ _, fun r hr => h.p r (List.mem_append_left _ hr), fun r hr => h.s r (List.mem_append_left _ hr), fun r hr g hg => ⟨.inr ⟨r, hr, hg⟩, (h.lo r (List.mem_append_left _ hr) g hg).2⟩, fun i j hij r q hi hj => ?_⟩
 have hil := (List.getElem?_eq_some_iff.1 hi).1
 have hjl := (List.getElem?_eq_some_iff.1 hj).1
 exact h.ne i j hij r q (by rw [List.getElem?_append_left hil]; exact hi) (by rw [List.getElem?_append_left hjl]; exact hj)
theorem MemX.back (h : MemX E w W (a ++ b)) (h' : MemX (blkE a) W W' a') : MemX E w W' (a' ++ b) := by
 have hnb : ∀ r ∈ b, ∀ g, r.blk = some g → ¬ blkE a g := fun r hr g hg ⟨q, hq, hqg⟩ => by
  obtain ⟨i, hi⟩ := List.getElem?_of_mem hq
  obtain ⟨j, hj⟩ := List.getElem?_of_mem hr
  have hil := (List.getElem?_eq_some_iff.1 hi).1
  refine h.ne i (a.length + j) (by omega) q r (by rw [List.getElem?_append_left hil]; exact hi) ?_ g hqg hg
  rw [List.getElem?_append_right (by omega), Nat.add_sub_cancel_left]; exact hj
 have hE : ∀ g, blkE a g → w.heap.size ≤ g ∨ E g := fun g ⟨q, hq, hqg⟩ => (h.lo q (List.mem_append_left _ hq) g hqg).1
 have hlo : ∀ r ∈ a', ∀ g, r.blk = some g → (w.heap.size ≤ g ∨ E g) ∧ g < W'.heap.size := fun r hr g hg => by
  have := h'.lo r hr g hg
  exact ⟨this.1.elim (fun h1 => .inl (Nat.le_trans h.fr.size h1)) (hE g), this.2⟩
 have hap : ∀ r ∈ a', ∀ q ∈ b, ∀ g, r.blk = some g → q.blk ≠ some g := fun r hr q hq g hg hqg => by
  have h1 := h'.lo r hr g hg
  have h2 := (h.lo q (List.mem_append_right _ hq) g hqg).2
  rcases h1.1 with h3 | h3
  ·omega
  ·exact hnb q hq g hqg h3
 refine ⟨⟨h'.fr.os.trans h.fr.os, h'.fr.tape.trans h.fr.tape, h'.fr.output.trans h.fr.output, Nat.le_trans h.fr.size h'.fr.size, fun k hk hn => ?_⟩, ?_, ?_, ?_, ?_⟩
 ·refine (h'.fr.block k (Nat.lt_of_lt_of_le hk h.fr.size) (fun e => ?_)).trans (h.fr.block k hk hn)
  rcases hE k e with h1 | h1
  ·omega
  ·exact hn h1
 ·intro r hr
  rcases List.mem_append.1 hr with hr | hr
  ·exact h'.p r hr
  ·exact h.s r (List.mem_append_right _ hr) W W' (h.p r (List.mem_append_right _ hr)) h'.fr.size (fun g hg => h'.fr.block g (h.lo r (List.mem_append_right _ hr) g hg).2 (hnb r hr g hg))
 ·intro r hr
  rcases List.mem_append.1 hr with hr | hr
  ·exact h'.s r hr
  ·exact h.s r (List.mem_append_right _ hr)
 ·intro r hr g hg
  rcases List.mem_append.1 hr with hr | hr
  ·exact hlo r hr g hg
  ·have := h.lo r (List.mem_append_right _ hr) g hg
   exact ⟨this.1, Nat.lt_of_lt_of_le this.2 h'.fr.size⟩
 ·intro i j hij r q hi hj g hg
  have key : ∀ (m : Nat) (x : Res), (a' ++ b)[m]? = some x → (m < a'.length ∧ a'[m]? = some x) ∨ (a'.length ≤ m ∧ b[m - a'.length]? = some x) := fun m x hx => by
   by_cases hm : m < a'.length
   ·rw [List.getElem?_append_left hm] at hx; exact .inl ⟨hm, hx⟩
   ·rw [List.getElem?_append_right (by omega)] at hx; exact .inr ⟨by omega, hx⟩
  rcases key i r hi with ⟨i1, i2⟩ | ⟨i1, i2⟩
  ·rcases key j q hj with ⟨j1, j2⟩ | ⟨j1, j2⟩
   ·exact h'.ne i j hij r q i2 j2 g hg
   ·exact hap r (List.mem_of_getElem? i2) q (List.mem_of_getElem? j2) g hg
  ·rcases key j q hj with ⟨j1, j2⟩ | ⟨j1, j2⟩
   ·exact fun e => hap q (List.mem_of_getElem? j2) r (List.mem_of_getElem? i2) g e hg
   ·have ib := (List.getElem?_eq_some_iff.1 i2).1
    have jb := (List.getElem?_eq_some_iff.1 j2).1
    exact h.ne (a.length + (i - a'.length)) (a.length + (j - a'.length)) (by omega) r q (by rw [List.getElem?_append_right (by omega), Nat.add_sub_cancel_left]; exact i2) (by rw [List.getElem?_append_right (by omega), Nat.add_sub_cancel_left]; exact j2) g hg
/-- two lists of things, the first one made by a call -/
theorem MemX.new_ (h : MemX E w W b) (h' : MemX noE W W' a') : MemX E w W' (a' ++ b) := by
 have : MemX E w W ([] ++ b) := h
 refine this.back (a := []) ⟨⟨h'.fr.os, h'.fr.tape, h'.fr.output, h'.fr.size, fun k hk hn => h'.fr.block k hk (fun e => e)⟩, h'.p, h'.s, fun r hr g hg => ?_, h'.ne⟩
 have := h'.lo r hr g hg
 exact ⟨.inl (this.1.resolve_right (fun e => e)), this.2⟩
/-- in another order -/
theorem MemX.perm {l l' : List Res} (h : MemX E w W l) (hp : l.Perm l') : MemX E w W l' := by
 have hpw : ∀ {m : List Res}, (∀ (i j : Nat), i ≠ j → ∀ (r q : Res), m[i]? = some r → m[j]? = some q → ∀ g, r.blk = some g → q.blk ≠ some g) ↔ m.Pairwise (fun r q => ∀ g, r.blk = some g → q.blk ≠ some g) := fun {m} => by
  rw [List.pairwise_iff_getElem]
  constructor
  ·intro h i j hi hj hij
   exact h i j (by omega) _ _ (List.getElem?_eq_getElem hi) (List.getElem?_eq_getElem hj)
  ·intro h i j hij r q hi hj g hg hqg
   obtain ⟨i1, rfl⟩ := List.getElem?_eq_some_iff.1 hi
   obtain ⟨j1, rfl⟩ := List.getElem?_eq_some_iff.1 hj
   rcases Nat.lt_or_gt_of_ne hij with h1 | h1
   ·exact h i j i1 j1 h1 g hg hqg
   ·exact h j i j1 i1 h1 g hqg hg
 refine ⟨h.fr, fun r hr => h.p r (hp.mem_iff.2 hr), fun r hr => h.s r (hp.mem_iff.2 hr), fun r hr => h.lo r (hp.mem_iff.2 hr), hpw.2 ?_⟩
 exact (hp.pairwise_iff (fun {r q} hrq g hg hqg => hrq g hqg hg)).1 (hpw.1 h.ne)
/-- fewer of them, from the other end -/
theorem MemX.drop_ (h : MemX E w W (a ++ b)) : MemX E w W b := by
 have := h.perm (List.perm_append_comm (l₁ := a) (l₂ := b))
 have := this.take_ b.length
 rwa [List.take_left] at this
end
end Go.Proofs.Ytfpifahkpkjfgaa
/- Rows of structs: an element stored over, the end cut off, a copy of all, and what is only read. -/
namespace Go.Proofs.Ytfpifahkpkjfgaa
open Go.RowKit
set_option linter.unusedVariables false
section
variable {P : Program} {w w' : World} {base size g off cap n : Nat} {cs : List Value}
/-- a slice without room, and something appended -/
theorem run_append_new (w : World) (t ty e : TypeId) (i : TypeInfo) (z : Value) (size bytes : Nat) (ht : P.underlying t = some (.slice e)) (hi : P.info? e = some i) (hz : i.zero = some z)
    (hsize : i.size = size) (hby : i.bytes = bytes) (hzs : z.cells.size = size) (hsz : 0 < size)
    (o : Option Addr) (a : Addr) (m c : Nat) (news : List Value) (hl : news.length = m * size) (hnews : ∀ j u, news[j]? = some u → w.cell? (a.add j) = some u) (h1 : ∀ u ∈ news, u.oneCell' = true)
    (hm : 0 < m) (h63 : m ≤ maxLen) (hbytes : m * bytes ≤ 140737488355328) :
    ∃ v' w', (Builtin.append_ #[t, t] ty #[.slice o 0 0, .slice (some a) m c]).run P w = .ok v' w' ∧ Win w' w.heap.size size v' m news ∧ Below w.heap.size w w' := by
  cases o with
  | none =>
    obtain ⟨v', w', hr, h2, h3, h4, h5⟩ := run_append_own_at (P := P) w w.heap.size t ty e i z size bytes ht hi hz hsize hby hzs hsz (.slice none 0 0) 0 [] (World.ownsRow_nil _ _ _ _) a m c news hl hnews h1 (by omega) (by rw [Nat.zero_add]; exact hbytes) (Nat.le_refl _)
    rw [Nat.zero_add, List.nil_append] at h2
    exact ⟨v', w', hr, Win.of_owns h2, ⟨h3.os, h3.tape, h3.output, h3.size, fun k hk => h3.block k hk (by simp [Value.ownBlock])⟩⟩
  | some b =>
    obtain ⟨v', w', hr, h2, h3⟩ := run_append_arg_grows (P := P) w t ty e i z size bytes ht hi hz hsize hby hzs hsz b 0 0 [] (by simp) (fun j u hj => by simp at hj) a m c news hl hnews (by omega) (by omega) (by rw [Nat.zero_add]; exact hbytes)
    rw [Nat.zero_add, List.nil_append] at h2
    exact ⟨v', w', hr, Win.of_owns h2, ⟨h3.os, h3.tape, h3.output, h3.size, fun k hk => h3.block k hk (by simp)⟩⟩
end
section
variable {α : Type} {size : Nat} {f : α → List Value} {v : Value} {rs : List α} {W : World}
end
section
variable {P : Program} {ops : Array Oper} {rest : List Oper} {op : Oper} {a : Act} {w w0 : World} {Q : Exit → Act → World → Prop} {E : Nat → Prop} {l : List Res}
/-- all of a row, copied: 'append(s[:0:0], s...)' of one that has something -/
theorem wpList_clone_row {α : Type} {f : α → List Value} {size : Nat} (hgd : op.guard = none) (s x : Operand) (t e : TypeId) (ho : op.op = .call { callee := .builtin .append, args := #[s, x], argTypes := #[t, t] }) (ht : P.underlying t = some (.slice e))
  (bytes : Nat) (he : (P.info? e).map (fun i => (i.size, i.bytes, i.zero.map (·.cells.size))) = some (size, bytes, some size)) (hsz : 0 < size)
  (o : Option Addr) (hs : a.eval s = .slice o 0 0) (v : Value) (rs : List α) (hx : a.eval x = v) (hW : Win w 0 size v rs.length (rs.flatMap f)) (hn : 0 < rs.length)
  (hf : ∀ r, (f r).length = size) (h1 : ∀ r, ∀ u ∈ f r, u.oneCell' = true) (hb : rs.length * bytes ≤ 140737488355328) (hb2 : rs.length ≤ maxLen)
  (h : ∀ v' W, Mem w W [rowR size f v' rs] → wpList P ops Q rest (a.put op.dst v') W) : wpList P ops Q (op :: rest) a w := by
 obtain ⟨i, z, i0, i1, i2, i3, i4⟩ := elem_of he
 refine wpList_plain hgd fun K hK => ?_
 obtain ⟨g, off, cap, rfl, hWA⟩ := hW.pos hn
 obtain ⟨v', w', hr, h2, h3⟩ := run_append_new (P := P) w t op.type e i z size bytes ht i0 i1 i2 i3 i4 hsz o ⟨g, off, none⟩ rs.length cap (rs.flatMap f) hW.1 (fun j u hj => by rw [Addr.add_mid]; exact hWA.here j u hj) (fun u hu => by
  obtain ⟨r, _, hu⟩ := List.mem_flatMap.1 hu
  exact h1 r u hu) hn hb2 hb
 unfold Oper.wp execOp
 simp only [ho, resolve, invoke, builtin, Sem.run_bind, Sem.run_pure, Result.andThen_ok, List.map_toArray, List.map_cons, List.map_nil, hs, hx, hr]
 refine hK _ _ (h v' w' ?_)
 exact (Mem.nil w).push h3 (winR_stab _ _ _ _ _) (h2.low (Nat.zero_le _)) (fun g hg => h2.lt g hg)
/-- nothing appended -/
theorem wpList_clone_nil (hgd : op.guard = none) (s x : Operand) (t e : TypeId) (ho : op.op = .call { callee := .builtin .append, args := #[s, x], argTypes := #[t, t] })
  (v y : Value) (hr : (Builtin.append_ #[t, t] op.type #[v, y]).run P w = .ok v w) (hs : a.eval s = v) (hx : a.eval x = y)
  (h : wpList P ops Q rest (a.put op.dst v) w) : wpList P ops Q (op :: rest) a w := by
 refine wpList_plain hgd fun K hK => ?_
 unfold Oper.wp execOp
 simp only [ho, resolve, invoke, builtin, Sem.run_bind, Sem.run_pure, Result.andThen_ok, List.map_toArray, List.map_cons, List.map_nil, hs, hx, hr]
 exact hK _ _ h
end
end Go.Proofs.Ytfpifahkpkjfgaa
/- rows in memory: the part ahead of an element, the part behind it. -/
namespace Go.Proofs.Ytfpifahkpkjfgaa
open Go.RowKit Go.Lib
set_option linter.unusedVariables false
set_option linter.unusedSimpArgs false
section
variable {w : World} {base size g off cap n k : Nat} {x y : List Value}
theorem WinAt.pre (h : WinAt w base size g off cap n (x ++ y)) (hx : x.length = k * size) (hy : y.length = (n - k) * size) (hk : k ≤ n) : WinAt w base size g off cap k x := by
 have hle := h.le
 refine ⟨h.ge, h.lt, by omega, h.mx, h.head, fun j hj => ?_, fun j hj => h.soft j (Nat.lt_of_lt_of_le hj (Nat.mul_le_mul_right _ hk))⟩
 have e1 : k * size + (n - k) * size = n * size := by rw [← Nat.add_mul, Nat.add_sub_cancel' hk]
 by_cases hc : k * size + j < n * size
 ·obtain ⟨u, hu⟩ : ∃ u, (x ++ y)[k * size + j]? = some u := ⟨_, List.getElem?_eq_getElem (by rw [List.length_append, hx, hy]; omega)⟩
  have h1 := h.here _ u hu
  have h2 := h.soft (k * size + j) hc
  rw [← Nat.add_assoc] at h1 h2
  exact ⟨by rw [h1]; rfl, h2⟩
 ·have e2 : (cap - k) * size = (cap - n) * size + (n - k) * size := by
   rw [← Nat.add_mul, show cap - n + (n - k) = cap - k by omega]
  have h1 := h.spare (k * size + j - n * size) (by omega)
  rw [show off + n * size + (k * size + j - n * size) = off + k * size + j by omega] at h1
  exact h1
theorem WinAt.suf (h : WinAt w base size g off cap n (x ++ y)) (hx : x.length = k * size) (hk : k ≤ n) : WinAt w base size g (off + k * size) (cap - k) (n - k) y := by
 have hle := h.le
 have e1 : k * size + (n - k) * size = n * size := by rw [← Nat.add_mul, Nat.add_sub_cancel' hk]
 refine ⟨h.ge, h.lt, by omega, by have := h.mx; omega, fun j u hj => ?_, fun j hj => ?_, fun j hj => ?_⟩
 ·have := h.here (k * size + j) u (by rw [List.getElem?_append_right (by omega), hx]; rw [show k * size + j - k * size = j by omega]; exact hj)
  rwa [← Nat.add_assoc] at this
 ·have h1 := h.spare j (by rw [show cap - n = cap - k - (n - k) by omega]; exact hj)
  rw [show off + n * size + j = off + k * size + (n - k) * size + j by omega] at h1
  exact h1
 ·have h1 := h.soft (k * size + j) (by omega)
  rwa [← Nat.add_assoc] at h1
end
end Go.Proofs.Ytfpifahkpkjfgaa
/- A string's bytes appended to a slice of one's own, wherever it lies in its block. -/
namespace Go.Proofs.Ytfpifahkpkjfgaa
open Go.RowKit Go.Lib
set_option linter.unusedVariables false
theorem run_append_win_str {P : Program} (w : World) (base : Nat) (t u ty e : TypeId) (i : TypeInfo) (ht : P.underlying t = some (.slice e)) (hu : P.underlying u = some .string) (hi : P.info? e = some i) (hz : i.zero = some (.int .u8 0))
  (hsize : i.size = 1) (hby : i.bytes = 1) (v : Value) (n : Nat) (xs : List Value) (hown : Win w base 1 v n xs) (s : ByteArray)
  (h63 : n + s.size ≤ maxLen) (hbytes : n + s.size ≤ 140737488355328) (hbase : base ≤ w.heap.size) :
  ∃ v' w', (Builtin.append_ #[t, u] ty #[v, .string s]).run P w = .ok v' w' ∧ Win w' base 1 v' (n + s.size) (xs ++ strCells s) ∧ w.grownBy w' v.ownBlock ∧ (v'.ownBlock = v.ownBlock ∨ ∃ k, v'.ownBlock = some k ∧ w.heap.size ≤ k) := by
 rcases hown.2 with ⟨rfl, rfl⟩ | ⟨g, off, cap, rfl, hW⟩
 ·have hx : xs = [] := List.eq_nil_of_length_eq_zero (by simpa using hown.1)
  subst hx
  obtain ⟨v', w', hr, h2, h3, h4⟩ := run_append_own_string (P := P) w w.heap.size t u ty e i ht hu hi hz hsize hby (.slice none 0 0) 0 [] (World.ownsRow_nil _ _ _ _) s h63 hbytes (Nat.le_refl _)
  have hw := Win.of_owns h2
  refine ⟨v', w', hr, hw.low hbase, h3, ?_⟩
  rcases hw.2 with ⟨hv, _⟩ | ⟨g, off, cap, hv, hW⟩
  ·left; rw [hv]
  ·right; exact ⟨g, by rw [hv]; rfl, hW.ge⟩
 ·have hl : (strCells s).length = s.size := strCells_length s
  have hxl : xs.length = n := by simpa using hown.1
  have hlen : (xs ++ strCells s).length = (n + s.size) * 1 := by rw [List.length_append, hxl, hl, Nat.mul_one]
  by_cases hroom : n + s.size ≤ cap
  ·have hsp : ∀ j, j < (strCells s).length → j < (cap - n) * 1 := fun j hj => by omega
   have hfc := run_firstCells_string (P := P) w 1 s
   have hst := run_storeCells_cells (P := P) g (off + n * 1) (strCells s) 0 w (fun j hj => by simpa using (hW.spare j (hsp j hj)).1) (fun j hj => by simpa using (hW.spare j (hsp j hj)).2) (strCells_oneCell s)
   simp only [Nat.add_zero, Nat.mul_one] at hst
   have hr : (Builtin.append_ #[t, u] ty #[.slice (some ⟨g, off, none⟩) n cap, .string s]).run P w = .ok (.slice (some ⟨g, off, none⟩) (n + s.size) cap) (w.setCells g (off + n) (strCells s)) := by
    simp [Builtin.append_, run_underlying ht, run_underlying hu, sizeOf, typeInfo, hi, hsize, Builtin.lenOf, hroom, hfc, Addr.add_lit, hst]
   have hg := setCells_grownBy g (strCells s) (off + n) w
   refine ⟨_, _, hr, ⟨hlen, .inr ⟨g, off, cap, rfl, hW.ge, Nat.lt_of_lt_of_le hW.lt hg.size, hroom, hW.mx, fun j u hj => ?_, fun j hj => ?_, fun j hj => ?_⟩⟩, hg, .inl rfl⟩
   ·by_cases hlt : j < xs.length
    ·rw [List.getElem?_append_left hlt] at hj
     rw [World.cell?_setCells_out g _ _ w _ (fun _ _ => .inl (by show off + j < _; omega))]
     exact hW.here j u hj
    ·rw [List.getElem?_append_right (by omega)] at hj
     have hj' : j - xs.length < (strCells s).length := (List.getElem?_eq_some_iff.1 hj).1
     have := World.cell?_setCells_in g (strCells s) (off + n) w (fun j hj => by simpa using (hW.spare j (hsp j hj)).1) (j - xs.length) hj'
     rw [show off + n + (j - xs.length) = off + j by omega] at this
     rw [this, ← hj, List.getElem?_eq_getElem hj']
   ·have e1 : off + (n + s.size) * 1 + j = off + n * 1 + (s.size + j) := by omega
    have e2 : s.size + j < (cap - n) * 1 := by omega
    rw [e1]
    refine ⟨?_, by rw [World.frozen?_setCells]; exact (hW.spare _ e2).2⟩
    rw [World.cell?_setCells_out g _ _ w _ (fun _ _ => .inr (by show _ ≤ off + n * 1 + (s.size + j); omega))]
    exact (hW.spare _ e2).1
   ·rw [World.frozen?_setCells]
    by_cases hlt : j < n * 1
    ·exact hW.soft j hlt
    ·have := (hW.spare (j - n * 1) (by omega)).2
     rwa [show off + n * 1 + (j - n * 1) = off + j by omega] at this
  ·have hsmall : n + s.size ≤ 9223372036854775807 := by simp only [maxLen] at h63; omega
   have holds : ∀ j u, xs[j]? = some u → w.cell? ((⟨g, off, none⟩ : Addr).add j) = some u := fun j u hj => by
    rw [Addr.add_mid]; exact hW.here j u hj
   have hr := run_append_grow_string (P := P) w t u ty e i (.int .u8 0) ht hu hi hz ⟨g, off, none⟩ n cap xs (by rw [hsize]; simpa using hxl) holds s (by omega) (by omega) (by rw [hby]; exact growslice_fits (by omega) (by omega))
   have hge := grownCap_ge w (n + s.size) cap e
   have hcm : grownCap w (n + s.size) cap e ≤ maxLen := grownCap_le_maxLen w (n + s.size) cap e h63
   refine ⟨_, _, hr, Win.of_owns (e := e) ⟨hlen, .inr ⟨w.heap.size, _, _, rfl, hbase, heap_alloc_new w.drew _, hge, hcm, ?_, ?_⟩⟩, ⟨rfl, rfl, rfl, by simp, fun k hk _ => (Below.heap_alloc w.drew _ k hk)⟩, .inr ⟨_, rfl, Nat.le_refl _⟩⟩
   ·have hz1 : (Value.int IntKind.u8 0).cells.size = 1 := rfl
    simp only [Array.size_append, List.size_toArray, size_zeroCells, hz1, hxl, strCells_length]
    omega
   ·simp only [Array.toList_append, List.append_assoc]
    rw [← List.append_assoc, ← hlen]
    exact List.take_left
/-- a text's bytes as numbers -/
def sI (s : ByteArray) : List Int := s.data.toList.map fun b => (b.toNat : Int)
theorem sI_len (s : ByteArray) : (sI s).length = s.size := by simp [sI]
theorem sI_cells (s : ByteArray) : (sI s).map b8 = strCells s := by
 unfold sI strCells
 rw [List.map_map]
 refine List.map_congr_left fun b _ => ?_
 show b8 (b.toNat : Int) = _
 have := b.toNat_lt
 unfold b8
 rw [Int.emod_eq_of_lt (by omega) (by omega)]
theorem elemz_of {P : Program} {e : TypeId} {size bytes : Nat} {z : Value} (h : (P.info? e).map (fun i => (i.zero, i.size, i.bytes)) = some (some z, size, bytes)) : ∃ i, P.info? e = some i ∧ i.zero = some z ∧ i.size = size ∧ i.bytes = bytes := by
  cases hi : P.info? e with
  | none => rw [hi] at h; cases h
  | some i =>
    rw [hi] at h
    simp only [Option.map_some, Option.some.injEq, Prod.mk.injEq] at h
    exact ⟨i, rfl, h.1, h.2.1, h.2.2⟩
theorem elem_u8s : ∃ i, Try.prog.info? 5 = some i ∧ i.zero = some (.int .u8 0) ∧ i.size = 1 ∧ i.bytes = 1 := elemz_of (by kernel_rfl)
end Go.Proofs.Ytfpifahkpkjfgaa
