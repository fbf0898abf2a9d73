/- A region that draws its order, step by step, with something that holds in every world on the way (I): what yields one value in all such worlds may be taken first; what stands alone is carried out. -/
import Derived.Test.YtfpifahkpkjfgaaMem
import Derived.Orders
namespace Go.Proofs.Ytfpifahkpkjfgaa
open Go Go.RowKit
set_option linter.unusedVariables false

section
variable {P : Program} {ops : Array Oper} {md : Region.Mode} {I : World → Prop} {X : List Nat} {Q : Exit → Act → World → Prop}
def wpI (P : Program) (md : Region.Mode) (ops : Array Oper) (I : World → Prop) (X : List Nat) (Q : Exit → Act → World → Prop) : Nat → Array Bool → Act → World → Prop
  | 0, done, a, w => Region.ready md ops done = [] ∧ Q .normal a w
  | f + 1, done, a, w => (Region.ready md ops done = [] → Q .normal a w) ∧
    ∀ i ∈ Region.ready md ops done, wpOp P ops Q i (fun a' w' => (i ∈ X ∨ (I w → I w')) ∧ wpI P md ops I X Q f (done.setIfInBounds i true) a' w') a w
theorem wpAny_of_wpI : ∀ (f : Nat) (done : Array Bool) (a : Act) (w : World), wpI P md ops I X Q f done a w → wpAny P md ops Q f done a w
  | 0, _, _, _, h => h
  | f + 1, _, _, _, h => ⟨h.1, fun i hi => wpOp_mono (fun a' w' h2 => wpAny_of_wpI f _ a' w' h2.2) (h.2 i hi)⟩
def YieldsI (P : Program) (ops : Array Oper) (I : World → Prop) (o : Oper) (v : Value) (a : Act) : Prop :=
  (Region.wanted o (yielded ops a.tmps) = true ∧ ∀ w, I w → (execOp a.eval o).run P w = .ok (.value v) w) ∨
  (Region.wanted o (yielded ops a.tmps) = false ∧ v = undef)
theorem YieldsI.wpOp {i : Nat} {o : Oper} {v : Value} {a : Act} {w : World} {K : Act → World → Prop} (hi : ops[i]? = some o) (hy : YieldsI P ops I o v a) (hw : I w) (h : K (a.put o.dst v) w) : Go.wpOp P ops Q i K a w := by
  unfold Go.wpOp
  simp only [hi]
  rcases hy with ⟨h1, h2⟩ | ⟨h1, rfl⟩
  · simp only [h1, if_true, Oper.wp, h2 w hw, Oper.upon]; exact .inl h
  · simp only [h1, Bool.false_eq_true, if_false]; exact h
theorem YieldsI.of_same {o : Oper} {v : Value} {a a' : Act} (hy : YieldsI P ops I o v a) (he : execOp a'.eval o = execOp a.eval o)
    (hw : Region.wanted o (yielded ops a'.tmps) = Region.wanted o (yielded ops a.tmps)) : YieldsI P ops I o v a' := by
  unfold YieldsI at *
  rw [he, hw]
  exact hy
theorem wpOp_putI {j : Nat} {oi oj : Oper} {v : Value} (hj : ops[j]? = some oj) (hap : oi.apart ops oj = true)
    (hsi : ∀ cs b, oi.op ≠ .select cs b) (hsj : ∀ cs b, oj.op ≠ .select cs b)
    (hQ : ∀ c a w, Q (.panic c) (a.put oi.dst v) w → Q (.panic c) a w) {K : Act → World → Prop} {a : Act} {w : World}
    (hy : YieldsI P ops I oi v a) (h : wpOp P ops Q j K (a.put oi.dst v) w) :
    wpOp P ops Q j (fun a' w' => YieldsI P ops I oi v a' ∧ K (a'.put oi.dst v) w') a w := by
  obtain ⟨h1, h2, h3⟩ := Oper.apart_spec hap
  have keep : ∀ (a : Act), YieldsI P ops I oi v a → ∀ u, YieldsI P ops I oi v (a.put oj.dst u) := fun a hy u =>
    hy.of_same (execOp_put oi hsi a oj.dst u h3) (wanted_put oi a oj.dst u h3)
  have keepD : ∀ d, YieldsI P ops I oi v { a with defers := d :: a.defers } := fun d => hy.of_same rfl rfl
  unfold wpOp at *
  simp only [hj] at *
  rw [wanted_put oj a oi.dst v h1] at h
  split
  · rename_i hw
    simp only [hw, if_true] at h
    rcases h with h | ⟨hasks, hlets⟩
    case inr => exact .inr ⟨by unfold Oper.asks at *; rw [execOp_put oj hsj a oi.dst v h1] at hasks; exact hasks, hlets⟩
    refine .inl ?_
    unfold Oper.wp at *
    rw [execOp_put oj hsj a oi.dst v h1] at h
    generalize (execOp a.eval oj).run P w = r at *
    cases r with
    | ok n w' =>
      cases n <;> simp only [Oper.upon] at h ⊢
      case value u => exact ⟨keep a hy u, by rw [← Act.put_comm a v u h2]; exact h⟩
      case skip => exact ⟨keep a hy _, by rw [← Act.put_comm a v undef h2]; exact h⟩
      case defer d =>
        refine ⟨keep _ (keepD d) _, ?_⟩
        rw [← Act.put_comm _ v undef h2, ← Act.put_defers]
        exact h
      case enter f args =>
        refine Calls.mono h fun e w'' he => ?_
        cases e with
        | returned u => exact ⟨keep a hy u, by rw [← Act.put_comm a v u h2]; exact he⟩
        | panicked c => exact hQ _ _ _ he
        | outgrown => exact he
      case row row args => exact Rows.mono h fun u w'' he => ⟨keep a hy u, by rw [← Act.put_comm a v u h2]; exact he⟩
    | halt x w' =>
      cases x <;> simp only [Oper.upon] at h ⊢
      case panic u => exact hQ _ _ _ h
  · rename_i hw
    simp only [hw] at h
    exact ⟨keep a hy _, by rw [← Act.put_comm a v undef h2]; exact h⟩
theorem wpI_first {i : Nat} {oi : Oper} {v : Value} (hi : ops[i]? = some oi) (hsel : ∀ (j : Nat) (o : Oper) cs b, ops[j]? = some o → o.op ≠ .select cs b)
    (hQ : ∀ c a w, Q (.panic c) (a.put oi.dst v) w → Q (.panic c) a w) :
    ∀ (fuel : Nat) (listed : Array Bool) (a : Act) (w : World),
      (∀ j oj, ops[j]? = some oj → j ≠ i → listed.getD j true = false → (∀ e ∈ oj.after, Region.binds md e = true → e.on ≠ i) → oi.apart ops oj = true) →
      (∀ x ∈ X, listed.getD x true = true ∨ ∃ ox, ops[x]? = some ox ∧ ∃ e ∈ ox.after, Region.binds md e = true ∧ e.on = i) →
      i ∈ Region.ready md ops listed → YieldsI P ops I oi v a → I w →
      wpI P md ops I X Q fuel (listed.setIfInBounds i true) (a.put oi.dst v) w → wpI P md ops I X Q (fuel + 1) listed a w := by
  intro fuel
  induction fuel with
  | zero =>
    intro listed a w _ hX hr hy hw H
    refine ⟨fun h => (by rw [h] at hr; cases hr), fun j hj => ?_⟩
    by_cases hji : j = i
    · subst hji; exact hy.wpOp hi hw ⟨.inr id, H⟩
    · have := ready_mono hj hji
      rw [H.1] at this
      cases this
  | succ fuel ih =>
    intro listed a w hfree hX hr hy hw H
    refine ⟨fun h => (by rw [h] at hr; cases hr), fun j hj => ?_⟩
    by_cases hji : j = i
    · subst hji; exact hy.wpOp hi hw ⟨.inr id, H⟩
    · have h1 := H.2 j (ready_mono hj hji)
      obtain ⟨hjun, oj, hoj, hall⟩ := mem_ready.1 hj
      have hnot : ∀ e ∈ oj.after, Region.binds md e = true → e.on ≠ i := fun e he hb heq => by
        have h1 := hall e he hb
        have h0 := (mem_ready.1 hr).1
        rw [heq] at h1
        rcases Nat.lt_or_ge i listed.size with h' | h'
        · simp [h'] at h0 h1; rw [h0] at h1; cases h1
        · simp [Array.getElem?_eq_none h'] at h1
      have h2 := wpOp_putI hoj (hfree j oj hoj hji hjun hnot) (fun cs b => hsel i oi cs b hi) (fun cs b => hsel j oj cs b hoj) hQ hy h1
      have hfree' : ∀ k ok, ops[k]? = some ok → k ≠ i → (listed.setIfInBounds j true).getD k true = false →
          (∀ e ∈ ok.after, Region.binds md e = true → e.on ≠ i) → oi.apart ops ok = true := fun k ok hk hki hun hno => by
        refine hfree k ok hk hki ?_ hno
        by_cases hjk : j = k
        · subst hjk; exact hjun
        · rw [getD_set_ne true hjk] at hun; exact hun
      have hjX : j ∉ X := fun hjx => by
        rcases hX j hjx with h4 | ⟨ox, h4, e, h5, h6, h7⟩
        · rw [hjun] at h4; cases h4
        · rw [hoj] at h4; cases h4
          exact hnot e h5 h6 h7
      have hX' : ∀ x ∈ X, (listed.setIfInBounds j true).getD x true = true ∨ ∃ ox, ops[x]? = some ox ∧ ∃ e ∈ ox.after, Region.binds md e = true ∧ e.on = i := fun x hx => (hX x hx).imp (fun h4 => by
        by_cases hjx : j = x
        · exact absurd (hjx ▸ hx) hjX
        · rw [getD_set_ne true hjx]; exact h4) id
      refine wpOp_mono (fun a' w' h3 => ⟨h3.2.1, ih (listed.setIfInBounds j true) a' w' hfree' hX' (ready_mono hr (Ne.symm hji)) h3.1 (h3.2.1.resolve_left hjX hw) ?_⟩) h2
      rw [Array.setIfInBounds_comm _ _ hji]
      exact h3.2.2
/-- what breaks I waits for i -/
def lateB (md : Region.Mode) (ops : Array Oper) (X : List Nat) (listed : Array Bool) (i : Nat) : Bool := X.all fun x => listed.getD x true || ((ops[x]?).map fun o => o.after.any fun e => Region.binds md e && e.on == i).getD false
theorem lateB_spec {listed : Array Bool} {i : Nat} (h : lateB md ops X listed i = true) : ∀ x ∈ X, listed.getD x true = true ∨ ∃ ox, ops[x]? = some ox ∧ ∃ e ∈ ox.after, Region.binds md e = true ∧ e.on = i := by
  intro x hx
  have h1 := List.all_eq_true.1 h x hx
  rw [Bool.or_eq_true] at h1
  refine h1.imp id fun h1 => ?_
  cases ho : ops[x]? with
  | none => rw [ho] at h1; cases h1
  | some o =>
    rw [ho] at h1
    obtain ⟨e, he, hb⟩ := Array.any_eq_true'.1 h1
    simp only [Bool.and_eq_true, beq_iff_eq] at hb
    exact ⟨o, rfl, e, he, hb.1, hb.2⟩
/-- what looks at no memory may be taken first whatever holds -/
theorem wpI_firstP {i : Nat} {oi : Oper} {v : Value} (hi : ops[i]? = some oi) (hsel : ∀ (j : Nat) (o : Oper) cs b, ops[j]? = some o → o.op ≠ .select cs b)
    (hQ : ∀ c a w, Q (.panic c) (a.put oi.dst v) w → Q (.panic c) a w) :
    ∀ (fuel : Nat) (listed : Array Bool) (a : Act) (w : World),
      (∀ j oj, ops[j]? = some oj → j ≠ i → listed.getD j true = false → (∀ e ∈ oj.after, Region.binds md e = true → e.on ≠ i) → oi.apart ops oj = true) →
      i ∈ Region.ready md ops listed → Yields P ops oi v a →
      wpI P md ops I X Q fuel (listed.setIfInBounds i true) (a.put oi.dst v) w → wpI P md ops I X Q (fuel + 1) listed a w := by
  intro fuel
  induction fuel with
  | zero =>
    intro listed a w _ hr hy H
    refine ⟨fun h => (by rw [h] at hr; cases hr), fun j hj => ?_⟩
    by_cases hji : j = i
    · subst hji; exact hy.wpOp hi ⟨.inr id, H⟩
    · have := ready_mono hj hji
      rw [H.1] at this
      cases this
  | succ fuel ih =>
    intro listed a w hfree hr hy H
    refine ⟨fun h => (by rw [h] at hr; cases hr), fun j hj => ?_⟩
    by_cases hji : j = i
    · subst hji; exact hy.wpOp hi ⟨.inr id, H⟩
    · have h1 := H.2 j (ready_mono hj hji)
      obtain ⟨hjun, oj, hoj, hall⟩ := mem_ready.1 hj
      have hnot : ∀ e ∈ oj.after, Region.binds md e = true → e.on ≠ i := fun e he hb heq => by
        have h1 := hall e he hb
        have h0 := (mem_ready.1 hr).1
        rw [heq] at h1
        rcases Nat.lt_or_ge i listed.size with h' | h'
        · simp [h'] at h0 h1; rw [h0] at h1; cases h1
        · simp [Array.getElem?_eq_none h'] at h1
      have h2 := wpOp_put hoj (hfree j oj hoj hji hjun hnot) (fun cs b => hsel i oi cs b hi) (fun cs b => hsel j oj cs b hoj) hQ hy h1
      have hfree' : ∀ k ok, ops[k]? = some ok → k ≠ i → (listed.setIfInBounds j true).getD k true = false →
          (∀ e ∈ ok.after, Region.binds md e = true → e.on ≠ i) → oi.apart ops ok = true := fun k ok hk hki hun hno => by
        refine hfree k ok hk hki ?_ hno
        by_cases hjk : j = k
        · subst hjk; exact hjun
        · rw [getD_set_ne true hjk] at hun; exact hun
      refine wpOp_mono (fun a' w' h3 => ⟨h3.2.1, ih (listed.setIfInBounds j true) a' w' hfree' (ready_mono hr (Ne.symm hji)) h3.1 ?_⟩) h2
      rw [Array.setIfInBounds_comm _ _ hji]
      exact h3.2.2
theorem wpI_takeP {i : Nat} {oi : Oper} {v : Value} {fuel : Nat} {listed : Array Bool} {a : Act} {w : World} (hi : ops[i]? = some oi)
    (hs : Region.noSelect ops = true) (hf : Region.free md ops listed i = true) (hr : (Region.ready md ops listed).contains i = true)
    (hQ : ∀ c a w, Q (.panic c) (a.put oi.dst v) w → Q (.panic c) a w) (hy : Yields P ops oi v a)
    (h : wpI P md ops I X Q fuel (listed.setIfInBounds i true) (a.put oi.dst v) w) : wpI P md ops I X Q (fuel + 1) listed a w :=
  wpI_firstP hi (Region.noSelect_spec hs) hQ fuel listed a w (Region.free_spec hi hf) (by simpa using hr) hy h
theorem wpI_take {i : Nat} {oi : Oper} {v : Value} {fuel : Nat} {listed : Array Bool} {a : Act} {w : World} (hi : ops[i]? = some oi)
    (hs : Region.noSelect ops = true) (hf : Region.free md ops listed i = true) (hr : (Region.ready md ops listed).contains i = true)
    (hl : lateB md ops X listed i = true) (hQ : ∀ c a w, Q (.panic c) (a.put oi.dst v) w → Q (.panic c) a w) (hw : I w) (hy : YieldsI P ops I oi v a)
    (h : wpI P md ops I X Q fuel (listed.setIfInBounds i true) (a.put oi.dst v) w) : wpI P md ops I X Q (fuel + 1) listed a w :=
  wpI_first hi (Region.noSelect_spec hs) hQ fuel listed a w (Region.free_spec hi hf) (lateB_spec hl) (by simpa using hr) hy hw h
/-- behind an operation that stands alone -/
def contI (P : Program) (md : Region.Mode) (ops : Array Oper) (I : World → Prop) (X : List Nat) (Q : Exit → Act → World → Prop) (f : Nat) (done : Array Bool) (i : Nat) (w0 : World) : Exit → Act → World → Prop
  | .normal, a, w => (i ∈ X ∨ (I w0 → I w)) ∧ wpI P md ops I X Q f done a w
  | e, a, w => Q e a w
theorem contI_normal {f i : Nat} {done : Array Bool} {a : Act} {w0 w : World} (hI : I w) (h : wpI P md ops I X Q f done a w) : contI P md ops I X Q f done i w0 .normal a w := ⟨.inr fun _ => hI, h⟩
theorem contI_late {f i : Nat} {done : Array Bool} {a : Act} {w0 w : World} (hX : i ∈ X) (h : wpI P md ops I X Q f done a w) : contI P md ops I X Q f done i w0 .normal a w := ⟨.inl hX, h⟩
theorem letsOut_cont {f i : Nat} {done : Array Bool} {w0 : World} (h : LetsOut (contI P md ops I X Q f done i w0)) : LetsOut Q := h
theorem wpI_one {i : Nat} {oi : Oper} {fuel : Nat} {listed : Array Bool} {a : Act} {w : World} (hi : ops[i]? = some oi) (hr : Region.ready md ops listed = [i])
    (h : wpList P ops (contI P md ops I X Q fuel (listed.setIfInBounds i true) i w) [oi] a w) : wpI P md ops I X Q (fuel + 1) listed a w := by
  refine ⟨fun h0 => (by rw [hr] at h0; cases h0), fun j hj => ?_⟩
  rw [hr, List.mem_singleton] at hj
  subst hj
  unfold Go.wpOp
  simp only [hi]
  unfold wpList at h
  split
  · rename_i hw
    rw [if_pos hw] at h
    rcases h with h | ⟨h1, h2⟩
    · refine .inl ?_
      unfold Oper.wp at *
      generalize (execOp a.eval oi).run P w = r at *
      cases r with
      | ok n w' =>
        cases n <;> simp only [Oper.upon] at h ⊢
        case enter f args =>
          refine Calls.mono h fun e w'' he => ?_
          cases e with
          | returned u => exact he
          | panicked c => exact he
          | outgrown => exact he
        all_goals exact h
      | halt x w' =>
        cases x <;> simp only [Oper.upon] at h ⊢
        case panic u => exact h
    · exact .inr ⟨h1, h2⟩
  · rename_i hw
    rw [if_neg hw] at h
    exact h
theorem wpI_done {listed : Array Bool} {a : Act} {w : World} (hr : Region.ready md ops listed = []) (h : Q .normal a w) : ∀ fuel, wpI P md ops I X Q fuel listed a w
  | 0 => ⟨hr, h⟩
  | _ + 1 => ⟨fun _ => h, by rw [hr]; simp⟩
theorem wp_region_I {id : Nat} {a : Act} {w : World} (I : World → Prop) (X : List Nat) (hm : P.follows .mixedOrders = true)
    (h : wpI P .any ops I X Q ops.size (Array.replicate ops.size false) a w.drew) : (Code.region id ops true).wp P Q a w :=
  wp_region_any hm (wpAny_of_wpI _ _ _ _ h)
end
/-- these things of the list hold -/
def holdsAt (l : List Res) (W : World) : List Nat → Prop
  | [] => True
  | k :: ks => (∀ r, l[k]? = some r → r.P W) ∧ holdsAt l W ks
/-- .. over what is known of the call's own memory: the things numbered ks stay as they are while it is carried out -/
theorem wp_region_M {P : Program} {l : List Res} {E : Nat → Prop} {w0 w : World} {id : Nat} {a : Act} {Q : Exit → Act → World → Prop} {os : List Oper} (ks X : List Nat) (hM : MemX E w0 w l) (hm : P.follows .mixedOrders = true)
    (h : ∀ W, MemX E w0 W l → wpI P .any os.toArray (fun W => holdsAt l W ks) X Q os.length (Array.replicate os.length false) a W) : (Code.region id os.toArray true).wp P Q a w := by
  have := h w.drew (hM.kept (Below.refl _ _).drew)
  exact wp_region_I _ X hm (by simpa using this)
end Go.Proofs.Ytfpifahkpkjfgaa
