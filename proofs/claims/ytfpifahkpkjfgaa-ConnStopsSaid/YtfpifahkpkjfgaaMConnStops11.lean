/- What ConnStops needs, a part: OrdC, OrdF, CnP, CnX. -/
import Derived.Deep.MidRow
import Derived.Test.YtfpifahkpkjfgaaMConnStops7
import Derived.Test.YtfpifahkpkjfgaaMConnStops8
import Derived.Test.YtfpifahkpkjfgaaMConnStops9
import Derived.Test.YtfpifahkpkjfgaaMConnStops10
namespace Go.Proofs.Ytfpifahkpkjfgaa
open Go Go.RowKit
set_option linter.unusedVariables false
section
variable {P : Program} {ops : Array Oper} {md : Region.Mode} {I : World → Prop} {X : List Nat} {Q : Exit → Act → World → Prop}
def WaitsN (md : Region.Mode) (ops : Array Oper) (listed : Array Bool) (i : Nat) : Nat → Nat → Prop
 | 0, _ => False
 | n + 1, x => ∃ ox, ops[x]? = some ox ∧ ∃ e ∈ ox.after, Region.binds md e = true ∧ (e.on = i ∨ (listed.getD e.on true = false ∧ WaitsN md ops listed i n e.on))
def Late (md : Region.Mode) (ops : Array Oper) (listed : Array Bool) (i x : Nat) : Prop := listed.getD x true = true ∨ WaitsN md ops listed i 6 x
def waitsB (md : Region.Mode) (ops : Array Oper) (listed : Array Bool) (i : Nat) : Nat → Nat → Bool
 | 0, _ => false
 | n + 1, x => ((ops[x]?).map fun o => o.after.any fun e => Region.binds md e && (e.on == i || (!listed.getD e.on true && waitsB md ops listed i n e.on))).getD false
theorem waitsB_spec {listed : Array Bool} {i : Nat} : ∀ (n x : Nat), waitsB md ops listed i n x = true → WaitsN md ops listed i n x
  | 0, _, h => by cases h
  | n + 1, x, h => by
    unfold waitsB at h
    cases ho : ops[x]? with
    | none => rw [ho] at h; cases h
    | some o =>
      rw [ho] at h
      obtain ⟨e, he, hb⟩ := Array.any_eq_true'.1 h
      simp only [Bool.and_eq_true, Bool.or_eq_true, beq_iff_eq, Bool.not_eq_true'] at hb
      exact ⟨o, ho, e, he, hb.1, hb.2.imp id fun h2 => ⟨h2.1, waitsB_spec n _ h2.2⟩⟩
def lateT (md : Region.Mode) (ops : Array Oper) (X : List Nat) (listed : Array Bool) (i : Nat) : Bool := X.all fun x => listed.getD x true || waitsB md ops listed i 6 x
theorem lateT_spec {listed : Array Bool} {i : Nat} (h : lateT md ops X listed i = true) : ∀ x ∈ X, Late md ops listed i x := fun x hx => by
 have h1 := List.all_eq_true.1 h x hx
 rw [Bool.or_eq_true] at h1
 exact h1.imp id fun h1 => waitsB_spec _ _ h1
theorem WaitsN.not_ready {listed : Array Bool} {i j n : Nat} (hi : listed.getD i true = false) (h : WaitsN md ops listed i n j) (hj : j ∈ Region.ready md ops listed) : False := by
  cases n with
  | zero => exact h
  | succ n =>
    obtain ⟨hjun, oj, hoj, hall⟩ := mem_ready.1 hj
    obtain ⟨ox, h4, e, h5, h6, h7⟩ := h
    rw [hoj] at h4; cases h4
    have h8 := hall e h5 h6
    have hun : listed.getD e.on true = false := by
      rcases h7 with h7 | ⟨h7, _⟩
      · rw [h7]; exact hi
      · exact h7
    rcases Nat.lt_or_ge e.on listed.size with h' | h'
    · simp [h'] at hun h8; rw [hun] at h8; cases h8
    · simp [Array.getElem?_eq_none h'] at h8
theorem WaitsN.next {listed : Array Bool} {i j : Nat} (hi : listed.getD i true = false) (hj : j ∈ Region.ready md ops listed) : ∀ (n x : Nat), WaitsN md ops listed i n x → WaitsN md ops (listed.setIfInBounds j true) i n x
  | 0, _, h => h
  | n + 1, x, h => by
    obtain ⟨ox, h4, e, h5, h6, h7⟩ := h
    refine ⟨ox, h4, e, h5, h6, h7.imp id fun h7 => ⟨?_, WaitsN.next hi hj n _ h7.2⟩⟩
    have hjy : j ≠ e.on := fun ej => (WaitsN.not_ready (j := e.on) hi h7.2 (ej ▸ hj))
    rw [getD_set_ne true hjy]; exact h7.1
def YieldsC (P : Program) (ops : Array Oper) (I : World → Prop) (o : Oper) (v : Value) (a : Act) : Prop :=
 Region.wanted o (yielded ops a.tmps) = true ∧ ∀ w, I w → ∃ f args, (execOp a.eval o).run P w = .ok (.enter f args) w ∧ Calls P f args w fun e w' => e = .returned v ∧ w = w'
theorem YieldsC.wpOp {i : Nat} {o : Oper} {v : Value} {a : Act} {w : World} {K : Act → World → Prop} (hi : ops[i]? = some o) (hy : YieldsC P ops I o v a) (hw : I w) (h : K (a.put o.dst v) w) : Go.wpOp P ops Q i K a w := by
 unfold Go.wpOp
 simp only [hi]
 obtain ⟨h1, h2⟩ := hy
 obtain ⟨f, args, h3, h4⟩ := h2 w hw
 simp only [h1, if_true, Oper.wp, h3, Oper.upon]
 refine .inl (h4.mono fun e w' he => ?_)
 obtain ⟨rfl, rfl⟩ := he
 exact h
theorem YieldsC.of_same {o : Oper} {v : Value} {a a' : Act} (hy : YieldsC P ops I o v a) (he : execOp a'.eval o = execOp a.eval o)
  (hw : Region.wanted o (yielded ops a'.tmps) = Region.wanted o (yielded ops a.tmps)) : YieldsC P ops I o v a' := by
 unfold YieldsC at *
 rw [he, hw]
 exact hy
theorem wpOp_putY {j : Nat} {oi oj : Oper} {v : Value} (hj : ops[j]? = some oj) (hap : oi.apart ops oj = true)
    (hsi : ∀ cs b, oi.op ≠ .select cs b) (hsj : ∀ cs b, oj.op ≠ .select cs b)
    (hQ : ∀ c a w, Q (.panic c) (a.put oi.dst v) w → Q (.panic c) a w) {K : Act → World → Prop} {a : Act} {w : World}
    {Y : Act → Prop} (hys : ∀ (a a' : Act), Y a → execOp a'.eval oi = execOp a.eval oi → Region.wanted oi (yielded ops a'.tmps) = Region.wanted oi (yielded ops a.tmps) → Y a') (hy : Y a) (h : wpOp P ops Q j K (a.put oi.dst v) w) :
    wpOp P ops Q j (fun a' w' => Y a' ∧ K (a'.put oi.dst v) w') a w := by
  obtain ⟨h1, h2, h3⟩ := Oper.apart_spec hap
  have keep : ∀ (a : Act), Y a → ∀ u, Y (a.put oj.dst u) := fun a hy u =>
    hys _ _ hy (execOp_put oi hsi a oj.dst u h3) (wanted_put oi a oj.dst u h3)
  have keepD : ∀ d, Y { a with defers := d :: a.defers } := fun d => hys _ _ hy rfl rfl
  unfold wpOp at *
  simp only [hj] at *
  rw [wanted_put oj a oi.dst v h1] at h
  split
  · rename_i hw
    simp only [hw, if_true] at h
    rcases h with h | ⟨hasks, hlets⟩
    case inr => exact .inr ⟨by unfold Oper.asks at *; rw [execOp_put oj hsj a oi.dst v h1] at hasks; exact hasks, hlets⟩
    refine .inl ?_
    unfold Oper.wp at *
    rw [execOp_put oj hsj a oi.dst v h1] at h
    generalize (execOp a.eval oj).run P w = r at *
    cases r with
    | ok n w' =>
      cases n <;> simp only [Oper.upon] at h ⊢
      case value u => exact ⟨keep a hy u, by rw [← Act.put_comm a v u h2]; exact h⟩
      case skip => exact ⟨keep a hy _, by rw [← Act.put_comm a v undef h2]; exact h⟩
      case defer d =>
        refine ⟨keep _ (keepD d) _, ?_⟩
        rw [← Act.put_comm _ v undef h2, ← Act.put_defers]
        exact h
      case enter f args =>
        refine Calls.mono h fun e w'' he => ?_
        cases e with
        | returned u => exact ⟨keep a hy u, by rw [← Act.put_comm a v u h2]; exact he⟩
        | panicked c => exact hQ _ _ _ he
        | outgrown => exact he
      case row row args => exact Rows.mono h fun u w'' he => ⟨keep a hy u, by rw [← Act.put_comm a v u h2]; exact he⟩
    | halt x w' =>
      cases x <;> simp only [Oper.upon] at h ⊢
      case panic u => exact hQ _ _ _ h
  · rename_i hw
    simp only [hw] at h
    exact ⟨keep a hy _, by rw [← Act.put_comm a v undef h2]; exact h⟩
theorem wpI_firstY {i : Nat} {oi : Oper} {v : Value} (hi : ops[i]? = some oi) (hsel : ∀ (j : Nat) (o : Oper) cs b, ops[j]? = some o → o.op ≠ .select cs b)
    (hQ : ∀ c a w, Q (.panic c) (a.put oi.dst v) w → Q (.panic c) a w) {Y : Act → Prop} (hys : ∀ (a a' : Act), Y a → execOp a'.eval oi = execOp a.eval oi → Region.wanted oi (yielded ops a'.tmps) = Region.wanted oi (yielded ops a.tmps) → Y a')
    (hyo : ∀ (a : Act) (w : World) (K : Act → World → Prop), Y a → I w → K (a.put oi.dst v) w → wpOp P ops Q i K a w) :
    ∀ (fuel : Nat) (listed : Array Bool) (a : Act) (w : World),
      (∀ j oj, ops[j]? = some oj → j ≠ i → listed.getD j true = false → (∀ e ∈ oj.after, Region.binds md e = true → e.on ≠ i) → oi.apart ops oj = true) →
      (∀ x ∈ X, Late md ops listed i x) →
      i ∈ Region.ready md ops listed → Y a → I w →
      wpI P md ops I X Q fuel (listed.setIfInBounds i true) (a.put oi.dst v) w → wpI P md ops I X Q (fuel + 1) listed a w := by
  intro fuel
  induction fuel with
  | zero =>
    intro listed a w _ hX hr hy hw H
    refine ⟨fun h => (by rw [h] at hr; cases hr), fun j hj => ?_⟩
    by_cases hji : j = i
    · subst hji; exact hyo _ _ _ hy hw ⟨.inr id, H⟩
    · have := ready_mono hj hji
      rw [H.1] at this
      cases this
  | succ fuel ih =>
    intro listed a w hfree hX hr hy hw H
    refine ⟨fun h => (by rw [h] at hr; cases hr), fun j hj => ?_⟩
    by_cases hji : j = i
    · subst hji; exact hyo _ _ _ hy hw ⟨.inr id, H⟩
    · have h1 := H.2 j (ready_mono hj hji)
      obtain ⟨hjun, oj, hoj, hall⟩ := mem_ready.1 hj
      have hnot : ∀ e ∈ oj.after, Region.binds md e = true → e.on ≠ i := fun e he hb heq => by
        have h1 := hall e he hb
        have h0 := (mem_ready.1 hr).1
        rw [heq] at h1
        rcases Nat.lt_or_ge i listed.size with h' | h'
        · simp [h'] at h0 h1; rw [h0] at h1; cases h1
        · simp [Array.getElem?_eq_none h'] at h1
      have h2 := wpOp_putY hoj (hfree j oj hoj hji hjun hnot) (fun cs b => hsel i oi cs b hi) (fun cs b => hsel j oj cs b hoj) hQ hys hy h1
      have hfree' : ∀ k ok, ops[k]? = some ok → k ≠ i → (listed.setIfInBounds j true).getD k true = false →
          (∀ e ∈ ok.after, Region.binds md e = true → e.on ≠ i) → oi.apart ops ok = true := fun k ok hk hki hun hno => by
        refine hfree k ok hk hki ?_ hno
        by_cases hjk : j = k
        · subst hjk; exact hjun
        · rw [getD_set_ne true hjk] at hun; exact hun
      have hiun : listed.getD i true = false := (mem_ready.1 hr).1
      have hjX : j ∉ X := fun hjx => by
        rcases hX j hjx with h4 | h4
        · rw [hjun] at h4; cases h4
        · exact h4.not_ready hiun hj
      have hX' : ∀ x ∈ X, Late md ops (listed.setIfInBounds j true) i x := fun x hx => (hX x hx).imp (fun h4 => by
        by_cases hjx : j = x
        · exact absurd (hjx ▸ hx) hjX
        · rw [getD_set_ne true hjx]; exact h4) (fun h4 => WaitsN.next hiun hj _ _ h4)
      refine wpOp_mono (fun a' w' h3 => ⟨h3.2.1, ih (listed.setIfInBounds j true) a' w' hfree' hX' (ready_mono hr (Ne.symm hji)) h3.1 (h3.2.1.resolve_left hjX hw) ?_⟩) h2
      rw [Array.setIfInBounds_comm _ _ hji]
      exact h3.2.2
theorem wpI_takeC {i : Nat} {oi : Oper} {v : Value} {fuel : Nat} {listed : Array Bool} {a : Act} {w : World} (hi : ops[i]? = some oi)
  (hs : Region.noSelect ops = true) (hf : Region.free md ops listed i = true) (hr : (Region.ready md ops listed).contains i = true)
  (hl : lateT md ops X listed i = true) (hQ : ∀ c a w, Q (.panic c) (a.put oi.dst v) w → Q (.panic c) a w) (hw : I w) (hy : YieldsC P ops I oi v a)
  (h : wpI P md ops I X Q fuel (listed.setIfInBounds i true) (a.put oi.dst v) w) : wpI P md ops I X Q (fuel + 1) listed a w :=
 wpI_firstY hi (Region.noSelect_spec hs) hQ (Y := YieldsC P ops I oi v) (fun _ _ h1 h2 h3 => h1.of_same h2 h3) (fun _ _ _ h1 h2 h3 => h1.wpOp hi h2 h3) fuel listed a w (Region.free_spec hi hf) (lateT_spec hl) (by simpa using hr) hy hw h
theorem wpI_takeT {i : Nat} {oi : Oper} {v : Value} {fuel : Nat} {listed : Array Bool} {a : Act} {w : World} (hi : ops[i]? = some oi)
  (hs : Region.noSelect ops = true) (hf : Region.free md ops listed i = true) (hr : (Region.ready md ops listed).contains i = true)
  (hl : lateT md ops X listed i = true) (hQ : ∀ c a w, Q (.panic c) (a.put oi.dst v) w → Q (.panic c) a w) (hw : I w) (hy : YieldsI P ops I oi v a)
  (h : wpI P md ops I X Q fuel (listed.setIfInBounds i true) (a.put oi.dst v) w) : wpI P md ops I X Q (fuel + 1) listed a w :=
 wpI_firstY hi (Region.noSelect_spec hs) hQ (Y := YieldsI P ops I oi v) (fun _ _ h1 h2 h3 => h1.of_same h2 h3) (fun _ _ _ h1 h2 h3 => h1.wpOp hi h2 h3) fuel listed a w (Region.free_spec hi hf) (lateT_spec hl) (by simpa using hr) hy hw h
end
section
variable {P : Program} {ops : Array Oper} {md : Region.Mode} {I : World → Prop} {X : List Nat} {Q : Exit → Act → World → Prop}
theorem wpOp_oneL {i : Nat} {oi : Oper} {fuel : Nat} {listed : Array Bool} {a : Act} {w : World} (hi : ops[i]? = some oi)
    (h : wpList P ops (contI P md ops I X Q fuel (listed.setIfInBounds i true) i w) [oi] a w) :
    wpOp P ops Q i (fun a' w' => (i ∈ X ∨ (I w → I w')) ∧ wpI P md ops I X Q fuel (listed.setIfInBounds i true) a' w') a w := by
  unfold Go.wpOp
  simp only [hi]
  unfold wpList at h
  split
  · rename_i hw
    rw [if_pos hw] at h
    rcases h with h | ⟨h1, h2⟩
    · refine .inl ?_
      unfold Oper.wp at *
      generalize (execOp a.eval oi).run P w = r at *
      cases r with
      | ok n w' =>
        cases n <;> simp only [Oper.upon] at h ⊢
        case enter f args =>
          refine Calls.mono h fun e w'' he => ?_
          cases e with
          | returned u => exact he
          | panicked c => exact he
          | outgrown => exact he
        all_goals exact h
      | halt x w' =>
        cases x <;> simp only [Oper.upon] at h ⊢
        case panic u => exact h
    · exact .inr ⟨h1, h2⟩
  · rename_i hw
    rw [if_neg hw] at h
    exact h
theorem wpI_two {i j : Nat} {oi oj : Oper} {fuel : Nat} {listed : Array Bool} {a : Act} {w : World} (hi : ops[i]? = some oi) (hj : ops[j]? = some oj) (hr : Region.ready md ops listed = [i, j])
  (h : wpList P ops (contI P md ops I X Q fuel (listed.setIfInBounds i true) i w) [oi] a w)
  (h2 : wpList P ops (contI P md ops I X Q fuel (listed.setIfInBounds j true) j w) [oj] a w) : wpI P md ops I X Q (fuel + 1) listed a w := by
 refine ⟨fun h0 => (by rw [hr] at h0; cases h0), fun k hk => ?_⟩
 rw [hr, List.mem_cons, List.mem_singleton] at hk
 rcases hk with rfl | rfl
 ·exact wpOp_oneL hi h
 ·exact wpOp_oneL hj h2
end
theorem exec_loadw {P : Program} {op : Oper} {a : Act} (T : TypeId) (x : Operand) (ho : op.op = .load T x) (b o : Nat) (hx : a.eval x = .pointer (some ⟨b, o, none⟩)) (cs : List Value) (d : TypeDesc)
  (hu : P.underlying T = some d) (hd : d.isRow = true) (hi : (P.info? T).map (·.size) = some cs.length) {W : World} (hc : W.rangeAt b o cs) : (execOp a.eval op).run P W = .ok (.value (.agg cs.toArray)) W := by
 unfold execOp
 simp only [ho, hx, Instr.loadAt, Instr.sureAddr, Sem.run_bind, Sem.run_pure, Result.andThen_ok, run_loadVar_mid W b o T cs d hc hu hd hi]
theorem range_cells {W : World} {g : Nat} {cs : List Value} (h : ∀ j, W.cell? ⟨g, j, none⟩ = cs[j]?) : W.rangeAt g 0 cs := fun j v hv => by rw [Nat.zero_add, h j, hv]
end Go.Proofs.Ytfpifahkpkjfgaa
namespace Go.Proofs.Ytfpifahkpkjfgaa
open Go.RowKit Go.Lib
set_option linter.unusedVariables false
set_option linter.unusedSimpArgs false
structure KTm where
 k : Bool
 m : Int
 s : Int
 d : Int
structure KWd where
 m : Int
 s : Int
 l : Int
structure KCn where
 la : Int
 lp : Int
 ra : Int
 rp : Int
 st : Int
 why : Int
 o : OQ
 iss : Int
 irs : Int
 own : Int
 mss : Int
 wnd : Int
 wat : Int
 wak : Int
 tm : KTm
 now : Int
 clock : Int
 gone : Int
 same : Int
 ends : Int
 owed : Bool
 again : Bool
 probe : Bool
 shut : Bool
 meas : Int
 wh : Int
 rs : List Int
 h : Option (IQ × KWd)
structure KPt where
 go : Nat
 gt : Nat
 vo : Value
 vr : Value
 vi : Value
 vw : Value
def cnC (c : KCn) (k : KPt) : List Value :=
 [.int .u32 c.la, .int .i64 c.lp, .int .u32 c.ra, .int .i64 c.rp, .int .i64 c.st, .int .i64 c.why, .pointer (some ⟨k.go, 0, none⟩), k.vi, .int .u32 c.iss, .int .u32 c.irs, .int .i64 c.own, .int .i64 c.mss, .int .i64 c.wnd, .int .i64 c.wat, .int .i64 c.wak, .pointer (some ⟨k.gt, 0, none⟩), k.vw, .int .i64 c.now, .int .i64 c.clock, .int .i64 c.gone, .int .i64 c.same, .int .i64 c.ends, .bool c.owed, .bool c.again, .bool c.probe, .bool c.shut, .int .i64 c.meas, .int .i64 c.wh, k.vr]
def fU32 (x : Int) : List Value := [.int .u32 x]
def cnA (gc : Nat) (c : KCn) (k : KPt) : Res := atR gc 85 (cnC c k)
def tmR (g : Nat) (t : KTm) : Res := atR g 109 (timer t.k t.m t.s t.d)
def wdR (g : Nat) (d : KWd) : Res := atR g 123 (window d.m d.s d.l)
def iqR (g : Nat) (q : IQ) : Res := atR g 121 (inqC q)
def rsR (v : Value) (rs : List Int) : Res := rowR 1 fU32 v rs
section
variable (c : KCn) (k : KPt) (x : Int) (b : Bool) (v : Value)
theorem cn4 : (cnC c k).set 4 (.int .i64 x) = cnC { c with st := x } k := rfl
theorem cn5 : (cnC c k).set 5 (.int .i64 x) = cnC { c with why := x } k := rfl
theorem cn7 : (cnC c k).set 7 v = cnC c { k with vi := v } := rfl
theorem cn9 : (cnC c k).set 9 (.int .u32 x) = cnC { c with irs := x } k := rfl
theorem cn11 : (cnC c k).set 11 (.int .i64 x) = cnC { c with mss := x } k := rfl
theorem cn12 : (cnC c k).set 12 (.int .i64 x) = cnC { c with wnd := x } k := rfl
theorem cn13 : (cnC c k).set 13 (.int .i64 x) = cnC { c with wat := x } k := rfl
theorem cn14 : (cnC c k).set 14 (.int .i64 x) = cnC { c with wak := x } k := rfl
theorem cn16 : (cnC c k).set 16 v = cnC c { k with vw := v } := rfl
theorem cn17 : (cnC c k).set 17 (.int .i64 x) = cnC { c with now := x } k := rfl
theorem cn18 : (cnC c k).set 18 (.int .i64 x) = cnC { c with clock := x } k := rfl
theorem cn19 : (cnC c k).set 19 (.int .i64 x) = cnC { c with gone := x } k := rfl
theorem cn20 : (cnC c k).set 20 (.int .i64 x) = cnC { c with same := x } k := rfl
theorem cn21 : (cnC c k).set 21 (.int .i64 x) = cnC { c with ends := x } k := rfl
theorem cn22 : (cnC c k).set 22 (.bool b) = cnC { c with owed := b } k := rfl
theorem cn23 : (cnC c k).set 23 (.bool b) = cnC { c with again := b } k := rfl
theorem cn24 : (cnC c k).set 24 (.bool b) = cnC { c with probe := b } k := rfl
theorem cn25 : (cnC c k).set 25 (.bool b) = cnC { c with shut := b } k := rfl
theorem cn26 : (cnC c k).set 26 (.int .i64 x) = cnC { c with meas := x } k := rfl
theorem cn27 : (cnC c k).set 27 (.int .i64 x) = cnC { c with wh := x } k := rfl
theorem cn28 : (cnC c k).set 28 v = cnC c { k with vr := v } := rfl
end
def cWaits (c : KCn) : Prop := c.o.una < c.o.cur ∨ (c.wnd = 0 ∧ 0 < c.o.una ∧ c.o.cur < qEnd c.o)
instance (c : KCn) : Decidable (cWaits c) := by unfold cWaits; infer_instance
def cSettle (c : KCn) : KCn :=
 if c.st = 0 ∨ c.st = 9 ∨ ¬ cWaits c then { c with clock := -1 } else if c.clock < 0 then { c with clock := c.now } else c
def cClosed (c : KCn) (y : Int) : KCn := { c with st := 0, why := y }
def cWait (c : KCn) : KCn := { c with st := 9, ends := c.now + 20 }
def u32 (x : Int) : Int := x % 4294967296
def cBare (c : KCn) (at_ : Int) : KSeg :=
 match c.h with
 | none => ⟨c.la, c.lp, c.ra, c.rp, u32 (c.iss + u32 at_), 0, false, false, false, false, 2048, 0, ⟨#[]⟩⟩
 | some (q, _) => ⟨c.la, c.lp, c.ra, c.rp, u32 (c.iss + u32 at_), u32 (c.irs + u32 q.nx), false, true, false, false, 2048 - (endZ q - q.rd), 0, ⟨#[]⟩⟩
def cSegm (c : KCn) (p : KPiece) : KSeg := { cBare c p.at_ with syn := p.syn, fin := p.fin, b := p.b, mss := if p.syn then c.own else 0 }
def cLimit (c : KCn) : Int :=
 if c.o.una = 0 then 1 else
  let n := match c.h with
   | none => 0
   | some (_, d) => if d.s < c.wnd then d.s else c.wnd
  c.o.una + (if c.probe then (if n < 1 then 1 else n) else n)
end Go.Proofs.Ytfpifahkpkjfgaa
namespace Go.Proofs.Ytfpifahkpkjfgaa
open Go Go.RowKit
set_option linter.unusedVariables false
theorem exec_cv32 {P : Program} {o : Oper} {a : Act} (S T : TypeId) (x : Operand) (ho : o.op = .convert S T x) (hS : P.underlying S = some (.int .i64)) (hT : P.underlying T = some (.int .u32)) (X : Int) (hx : a.eval x = .int .i64 X) (w : World) : (execOp a.eval o).run P w = .ok (.value (.int .u32 (u32 X))) w := by
 unfold execOp
 simp [ho, hx, convert, Sem.run_bind, run_underlying hS, run_underlying hT, Conv.intToInt, u32, IntKind.wrap_u32]
theorem range_sub {W : World} {g : Nat} {cs : List Value} (h : ∀ j, W.cell? ⟨g, j, none⟩ = cs[j]?) (o : Nat) (vs : List Value) (he : (cs.drop o).take vs.length = vs) : W.rangeAt g o vs := fun j v hv => by
 rw [h (o + j)]
 have hj := (List.getElem?_eq_some_iff.1 hv).1
 rw [← he, List.getElem?_take_of_lt hj, List.getElem?_drop] at hv
 exact hv
theorem cn_last {E : Nat → Prop} {w W : World} {l : List Res} {A : Res} (h : MemX E w W (l ++ [A])) : MemX E w W (A :: l) := h.perm List.perm_append_comm
end Go.Proofs.Ytfpifahkpkjfgaa
