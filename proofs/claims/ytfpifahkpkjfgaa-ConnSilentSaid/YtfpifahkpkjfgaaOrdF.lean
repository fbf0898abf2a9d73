/- As Ord: two operations that stand ready, whichever comes first; a whole struct read in a region that draws. -/
import Derived.Test.YtfpifahkpkjfgaaOrdC
import Derived.Deep.MidRow
namespace Go.Proofs.Ytfpifahkpkjfgaa
open Go Go.RowKit
set_option linter.unusedVariables false

section
variable {P : Program} {ops : Array Oper} {md : Region.Mode} {I : World → Prop} {X : List Nat} {Q : Exit → Act → World → Prop}
theorem wpOp_oneL {i : Nat} {oi : Oper} {fuel : Nat} {listed : Array Bool} {a : Act} {w : World} (hi : ops[i]? = some oi)
    (h : wpList P ops (contI P md ops I X Q fuel (listed.setIfInBounds i true) i w) [oi] a w) :
    wpOp P ops Q i (fun a' w' => (i ∈ X ∨ (I w → I w')) ∧ wpI P md ops I X Q fuel (listed.setIfInBounds i true) a' w') a w := by
  unfold Go.wpOp
  simp only [hi]
  unfold wpList at h
  split
  · rename_i hw
    rw [if_pos hw] at h
    rcases h with h | ⟨h1, h2⟩
    · refine .inl ?_
      unfold Oper.wp at *
      generalize (execOp a.eval oi).run P w = r at *
      cases r with
      | ok n w' =>
        cases n <;> simp only [Oper.upon] at h ⊢
        case enter f args =>
          refine Calls.mono h fun e w'' he => ?_
          cases e with
          | returned u => exact he
          | panicked c => exact he
          | outgrown => exact he
        all_goals exact h
      | halt x w' =>
        cases x <;> simp only [Oper.upon] at h ⊢
        case panic u => exact h
    · exact .inr ⟨h1, h2⟩
  · rename_i hw
    rw [if_neg hw] at h
    exact h
theorem wpI_two {i j : Nat} {oi oj : Oper} {fuel : Nat} {listed : Array Bool} {a : Act} {w : World} (hi : ops[i]? = some oi) (hj : ops[j]? = some oj) (hr : Region.ready md ops listed = [i, j])
    (h : wpList P ops (contI P md ops I X Q fuel (listed.setIfInBounds i true) i w) [oi] a w)
    (h2 : wpList P ops (contI P md ops I X Q fuel (listed.setIfInBounds j true) j w) [oj] a w) : wpI P md ops I X Q (fuel + 1) listed a w := by
  refine ⟨fun h0 => (by rw [hr] at h0; cases h0), fun k hk => ?_⟩
  rw [hr, List.mem_cons, List.mem_singleton] at hk
  rcases hk with rfl | rfl
  · exact wpOp_oneL hi h
  · exact wpOp_oneL hj h2
end
/-- a whole struct read -/
theorem exec_loadw {P : Program} {op : Oper} {a : Act} (T : TypeId) (x : Operand) (ho : op.op = .load T x) (b o : Nat) (hx : a.eval x = .pointer (some ⟨b, o, none⟩)) (cs : List Value) (d : TypeDesc)
    (hu : P.underlying T = some d) (hd : d.isRow = true) (hi : (P.info? T).map (·.size) = some cs.length) {W : World} (hc : W.rangeAt b o cs) : (execOp a.eval op).run P W = .ok (.value (.agg cs.toArray)) W := by
  unfold execOp
  simp only [ho, hx, Instr.loadAt, Instr.sureAddr, Sem.run_bind, Sem.run_pure, Result.andThen_ok, run_loadVar_mid W b o T cs d hc hu hd hi]
theorem range_cells {W : World} {g : Nat} {cs : List Value} (h : ∀ j, W.cell? ⟨g, j, none⟩ = cs[j]?) : W.rangeAt g 0 cs := fun j v hv => by rw [Nat.zero_add, h j, hv]
end Go.Proofs.Ytfpifahkpkjfgaa
