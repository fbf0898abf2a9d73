/- What ConnStates needs, part 5: QMix. -/
import Derived.Test.YtfpifahkpkjfgaaMConnStates3
import Derived.Test.YtfpifahkpkjfgaaMConnStates4
/- A region that draws its order: quiet operations (reads; calls that leave what was there), new variables, and stores of whole values into variables of the call's own, in whatever order they come up. -/
namespace Go.Proofs.Ytfpifahkpkjfgaa
open Go Go.RowKit
set_option linter.unusedVariables false

/-- Mem, its things under numbers of one's own -/
structure MemF (E : Nat → Prop) (w W : World) (X : Nat → Option Res) : Prop where
  fr : Fr E w W
  p : ∀ i r, X i = some r → r.P W
  s : ∀ i r, X i = some r → r.Stab
  lo : ∀ i r, X i = some r → ∀ g, r.blk = some g → (w.heap.size ≤ g ∨ E g) ∧ g < W.heap.size
  ne : ∀ (i j : Nat), i ≠ j → ∀ (r q : Res), X i = some r → X j = some q → ∀ g, r.blk = some g → q.blk ≠ some g
def updF (X : Nat → Option Res) (i : Nat) (r : Res) : Nat → Option Res := fun j => if j = i then some r else X j
theorem updF_comm (X : Nat → Option Res) {i j : Nat} (h : i ≠ j) (r q : Res) : updF (updF X i r) j q = updF (updF X j q) i r := by
  funext k
  unfold updF
  by_cases h1 : k = j
  · by_cases h2 : k = i
    · omega
    · subst h1; simp [h2]
  · by_cases h2 : k = i <;> simp [h1, h2, h]
theorem updF_other (X : Nat → Option Res) {i j : Nat} (h : j ≠ i) (r : Res) : updF X i r j = X j := by unfold updF; rw [if_neg h]
theorem updF_same (X : Nat → Option Res) (i : Nat) (r : Res) : updF X i r i = some r := by unfold updF; rw [if_pos rfl]
section
variable {E : Nat → Prop} {w W W' : World} {X : Nat → Option Res} {r r' : Res} {l : List Res}
theorem MemF.kept (h : MemF E w W X) (hb : Below W.heap.size W W') : MemF E w W' X :=
  ⟨h.fr.kept hb, fun i r hr => h.s i r hr W W' (h.p i r hr) hb.size (fun g hg => hb.block g (h.lo i r hr g hg).2), h.s, fun i r hr g hg => ⟨(h.lo i r hr g hg).1, Nat.lt_of_lt_of_le (h.lo i r hr g hg).2 hb.size⟩, h.ne⟩
/-- one of them turns, or comes new -/
theorem MemF.put (h : MemF E w W X) (k : Nat) (b : Option Nat) (hb : ∀ g, b = some g → ∃ r, X k = some r ∧ r.blk = some g) (hO : W.grownBy W' b) (hs : r'.Stab) (hp : r'.P W') (hn : ∀ g, r'.blk = some g → (b = some g ∨ W.heap.size ≤ g) ∧ g < W'.heap.size) : MemF E w W' (updF X k r') := by
  have e : ∀ (m : Nat) (x : Res), updF X k r' m = some x → (m ≠ k ∧ X m = some x) ∨ (m = k ∧ x = r') := by
    intro m x hx
    by_cases hm : m = k
    · subst hm
      rw [updF_same] at hx
      exact .inr ⟨rfl, (Option.some.inj hx).symm⟩
    · rw [updF_other X hm] at hx; exact .inl ⟨hm, hx⟩
  have old : ∀ (m : Nat) (x : Res), m ≠ k → X m = some x → ∀ g, x.blk = some g → W'.heap[g]? = W.heap[g]? := by
    intro m x hm hx g hg
    refine hO.block g (h.lo m x hx g hg).2 (fun e2 => ?_)
    obtain ⟨r, hr, hrg⟩ := hb g e2.symm
    exact h.ne m k hm x r hx hr g hg hrg
  refine ⟨h.fr.grown hO (fun j hj => by obtain ⟨r, hr, hrg⟩ := hb j hj; exact (h.lo k r hr j hrg).1), ?_, ?_, ?_, ?_⟩
  · intro m x hm
    rcases e m x hm with ⟨h1, h2⟩ | ⟨h1, rfl⟩
    · exact h.s m x h2 W W' (h.p m x h2) hO.size (old m x h1 h2)
    · exact hp
  · intro m x hm
    rcases e m x hm with ⟨h1, h2⟩ | ⟨h1, rfl⟩
    · exact h.s m x h2
    · exact hs
  · intro m x hm g hg
    rcases e m x hm with ⟨h1, h2⟩ | ⟨h1, rfl⟩
    · have := h.lo m x h2 g hg
      exact ⟨this.1, Nat.lt_of_lt_of_le this.2 hO.size⟩
    · refine ⟨?_, (hn g hg).2⟩
      rcases (hn g hg).1 with h3 | h3
      · obtain ⟨r, hr, hrg⟩ := hb g h3; exact (h.lo k r hr g hrg).1
      · exact .inl (Nat.le_trans h.fr.size h3)
  · intro i j hij a q hi hj g hg
    rcases e i a hi with ⟨h1, h2⟩ | ⟨h1, rfl⟩
    · rcases e j q hj with ⟨h3, h4⟩ | ⟨h3, rfl⟩
      · exact h.ne i j hij a q h2 h4 g hg
      · intro e2
        have hlo := (h.lo i a h2 g hg).2
        rcases (hn g e2).1 with h5 | h5
        · obtain ⟨r, hr, hrg⟩ := hb g h5; exact h.ne i k h1 a r h2 hr g hg hrg
        · omega
    · rcases e j q hj with ⟨h3, h4⟩ | ⟨h3, rfl⟩
      · intro e2
        have hlo := (h.lo j q h4 g e2).2
        rcases (hn g hg).1 with h5 | h5
        · obtain ⟨r, hr, hrg⟩ := hb g h5; exact h.ne k j (fun x => h3 x.symm) r q hr h4 g hrg e2
        · omega
      · omega
theorem MemX.ofF (h : MemF E w W X) (φ : Nat → Nat) (hφ : ∀ i j, i < l.length → j < l.length → φ i = φ j → i = j) (hl : ∀ i r, l[i]? = some r → X (φ i) = some r) : MemX E w W l := by
  have pos : ∀ r ∈ l, ∃ i, l[i]? = some r := fun r hr => List.getElem?_of_mem hr
  refine ⟨h.fr, ?_, ?_, ?_, ?_⟩
  · intro r hr; obtain ⟨i, hi⟩ := pos r hr; exact h.p _ r (hl i r hi)
  · intro r hr; obtain ⟨i, hi⟩ := pos r hr; exact h.s _ r (hl i r hi)
  · intro r hr; obtain ⟨i, hi⟩ := pos r hr; exact h.lo _ r (hl i r hi)
  · intro i j hij r q hi hj
    have hil := (List.getElem?_eq_some_iff.1 hi).1
    have hjl := (List.getElem?_eq_some_iff.1 hj).1
    exact h.ne (φ i) (φ j) (fun e => hij (hφ i j hil hjl e)) r q (hl i r hi) (hl j q hj)
theorem MemX.toF (h : MemX E w W l) (N : Nat) : MemF E w W (fun i => if i < N then none else l[i - N]?) := by
  have g : ∀ (i : Nat) (r : Res), (if i < N then none else l[i - N]?) = some r → N ≤ i ∧ l[i - N]? = some r := by
    intro i r hi
    split at hi
    · cases hi
    · exact ⟨by omega, hi⟩
  refine ⟨h.fr, fun i r hr => h.p r (List.mem_of_getElem? (g i r hr).2), fun i r hr => h.s r (List.mem_of_getElem? (g i r hr).2), fun i r hr => h.lo r (List.mem_of_getElem? (g i r hr).2), fun i j hij r q hi hj => ?_⟩
  have h1 := g i r hi
  have h2 := g j q hj
  exact h.ne (i - N) (j - N) (by omega) r q h1.2 h2.2
end
/-- the kinds of operations: quiet, with its value; a new variable; a store into a variable that is known under number m -/
inductive MKd
  | q (v : Value)
  | al (T : TypeId) (Z : List Value)
  | st (m : Nat) (T : TypeId) (cs : List Value)
section
variable {E : Nat → Prop} {P : Program} {ops : Array Oper} {md : Region.Mode} {w0 : World} {C0 : World → Prop}
/-- in every world of the class the operation yields v, and leaves all that is there -/
def GivesC (P : Program) (ops : Array Oper) (C0 : World → Prop) (o : Oper) (v : Value) (a : Act) : Prop := ∀ w1, C0 w1 → YieldsIn P ops (Ab w1) o v a
theorem GivesC.put {oi oj : Oper} {v u : Value} {a : Act} (h : GivesC P ops C0 oi v a) (hap : ∀ d, oj.dst = some d → d ∉ oi.looksAt ops) (hsi : ∀ cs b, oi.op ≠ .select cs b) : GivesC P ops C0 oi v (a.put oj.dst u) :=
  fun w1 hw => (h w1 hw).of_same (execOp_put oi hsi a oj.dst u hap) (wanted_put oi a oj.dst u hap)
theorem GivesC.unput {oi oj : Oper} {v u : Value} {a : Act} (h : GivesC P ops C0 oi v (a.put oj.dst u)) (hap : ∀ d, oj.dst = some d → d ∉ oi.looksAt ops) (hsi : ∀ cs b, oi.op ≠ .select cs b) : GivesC P ops C0 oi v a :=
  fun w1 hw => (h w1 hw).of_same (execOp_put oi hsi a oj.dst u hap).symm (wanted_put oi a oj.dst u hap).symm
/-- what a store asks -/
structure StoreOk (P : Program) (ops : Array Oper) (o : Oper) (g : Nat) (T : TypeId) (cs : List Value) (a : Act) : Prop where
  dst : o.dst = none
  gd : o.guard = none
  run : ∃ p y, o.op = .store T p y ∧ a.eval p = .pointer (some ⟨g, 0, none⟩) ∧ (a.eval y).cells = cs.toArray
  sz : (P.info? T).map (·.size) = some cs.length
  one : cs.all (·.oneCell') = true
theorem looks_store {o : Oper} {T : TypeId} {p y : Operand} (h : o.op = .store T p y) {d : Nat} (hd : p = .tmp d ∨ y = .tmp d) : d ∈ o.looksAt ops := by
  refine List.mem_append_left _ (List.mem_filterMap.2 ⟨.tmp d, ?_, rfl⟩)
  rcases hd with hd | hd <;> simp [h, Op.operands, hd]
theorem StoreOk.move {o oj : Oper} {g : Nat} {T : TypeId} {cs : List Value} {a : Act} {u : Value} (h : StoreOk P ops o g T cs a) (hap : ∀ d, oj.dst = some d → d ∉ o.looksAt ops) : StoreOk P ops o g T cs (a.put oj.dst u) := by
  obtain ⟨h1, h2, ⟨p, y, h3, h4, h5⟩, h6, h7⟩ := h
  exact ⟨h1, h2, ⟨p, y, h3, by rw [Act.eval_put fun d hd hpd => hap d hd (looks_store h3 (.inl hpd))]; exact h4, by rw [Act.eval_put fun d hd hpd => hap d hd (looks_store h3 (.inr hpd))]; exact h5⟩, h6, h7⟩
theorem StoreOk.unmove {o oj : Oper} {g : Nat} {T : TypeId} {cs : List Value} {a : Act} {u : Value} (h : StoreOk P ops o g T cs (a.put oj.dst u)) (hap : ∀ d, oj.dst = some d → d ∉ o.looksAt ops) : StoreOk P ops o g T cs a := by
  obtain ⟨h1, h2, ⟨p, y, h3, h4, h5⟩, h6, h7⟩ := h
  exact ⟨h1, h2, ⟨p, y, h3, by rw [Act.eval_put fun d hd hpd => hap d hd (looks_store h3 (.inl hpd))] at h4; exact h4, by rw [Act.eval_put fun d hd hpd => hap d hd (looks_store h3 (.inr hpd))] at h5; exact h5⟩, h6, h7⟩
/-- one operation, whatever block a new variable comes to lie in -/
def mStep (P : Program) (ops : Array Oper) (C0 : World → Prop) (kd : Nat → MKd) (i : Nat) (K : (Nat → Option Res) → Act → Prop) (X : Nat → Option Res) (a : Act) : Prop :=
  match kd i with
  | .q v => ∃ o, ops[i]? = some o ∧ GivesC P ops C0 o v a ∧ K X (a.put o.dst v)
  | .al T Z => ∃ o, ops[i]? = some o ∧ o.op = .alloc T ∧ o.guard = none ∧ (∀ W, (zeroValue T).run P W = .ok (.agg Z.toArray) W) ∧ X i = none ∧ ∀ x, K (updF X i (atR x T Z)) (a.put o.dst (.pointer (some ⟨x, 0, none⟩)))
  | .st m T cs => ∃ o g c, ops[i]? = some o ∧ X m = some (atR g T c) ∧ c.length = cs.length ∧ StoreOk P ops o g T cs a ∧ K (updF X m (atR g T cs)) (a.put o.dst undef)
theorem mStep_mono {kd : Nat → MKd} {i : Nat} {K K' : (Nat → Option Res) → Act → Prop} {X : Nat → Option Res} {a : Act} (h : ∀ X a, K X a → K' X a) (hh : mStep P ops C0 kd i K X a) : mStep P ops C0 kd i K' X a := by
  unfold mStep at *
  split at hh
  · obtain ⟨o, h1, h2, h3⟩ := hh; exact ⟨o, h1, h2, h _ _ h3⟩
  · obtain ⟨o, h1, h2, h3, h4, h5, h6⟩ := hh; exact ⟨o, h1, h2, h3, h4, h5, fun x => h _ _ (h6 x)⟩
  · obtain ⟨o, g, c, h1, h2, h3, h4, h5⟩ := hh; exact ⟨o, g, c, h1, h2, h3, h4, h _ _ h5⟩
/-- two operations that are apart may change places -/
theorem mStep_swap {kd : Nat → MKd} {i j : Nat} {oi oj : Oper} {K : (Nat → Option Res) → Act → Prop} {X : Nat → Option Res} {a : Act} (hi : ops[i]? = some oi) (hj : ops[j]? = some oj) (hne : j ≠ i) (hap : oi.apart ops oj = true)
    (hsi : ∀ cs b, oi.op ≠ .select cs b) (hsj : ∀ cs b, oj.op ≠ .select cs b) (hst : ∀ m T cs, kd j = .st m T cs → m ≠ i) (hst' : ∀ m T cs, kd i = .st m T cs → m ≠ j) (hss : ∀ m T cs m' T' cs', kd i = .st m T cs → kd j = .st m' T' cs' → m ≠ m')
    (h : mStep P ops C0 kd i (mStep P ops C0 kd j K) X a) : mStep P ops C0 kd j (mStep P ops C0 kd i K) X a := by
  obtain ⟨x1, x2, x3⟩ := Oper.apart_spec hap
  have xc : ∀ (a : Act) (v u : Value), (a.put oi.dst v).put oj.dst u = (a.put oj.dst u).put oi.dst v := fun a v u => Act.put_comm a v u x2
  cases ki : kd i with
  | q v =>
    unfold mStep at h
    rw [ki] at h
    obtain ⟨o, h1, h2, h3⟩ := h
    obtain rfl : o = oi := Option.some.inj (h1.symm.trans hi)
    cases kj : kd j with
    | q u =>
      simp only [kj] at h3
      obtain ⟨o', k1, k2, k3⟩ := h3
      obtain rfl : o' = oj := Option.some.inj (k1.symm.trans hj)
      unfold mStep; rw [kj]
      refine ⟨_, hj, k2.unput x1 hsj, ?_⟩
      simp only [ki]
      exact ⟨_, hi, h2.put x3 hsi, by rw [← xc]; exact k3⟩
    | al T Z =>
      simp only [kj] at h3
      obtain ⟨o', k1, k2, k3, k4, k5, k6⟩ := h3
      obtain rfl : o' = oj := Option.some.inj (k1.symm.trans hj)
      unfold mStep; rw [kj]
      refine ⟨_, hj, k2, k3, k4, k5, fun x => ?_⟩
      simp only [ki]
      exact ⟨_, hi, h2.put x3 hsi, by rw [← xc]; exact k6 x⟩
    | st m T cs =>
      simp only [kj] at h3
      obtain ⟨o', g, c, k1, k2, k3, k4, k5⟩ := h3
      obtain rfl : o' = oj := Option.some.inj (k1.symm.trans hj)
      unfold mStep; rw [kj]
      refine ⟨_, g, c, hj, k2, k3, k4.unmove x1, ?_⟩
      simp only [ki]
      exact ⟨_, hi, h2.put x3 hsi, by rw [← xc]; exact k5⟩
  | al T0 Z0 =>
    unfold mStep at h
    rw [ki] at h
    obtain ⟨o, h1, h2, h2b, h2c, h2d, h3⟩ := h
    obtain rfl : o = oi := Option.some.inj (h1.symm.trans hi)
    cases kj : kd j with
    | q u =>
      simp only [kj] at h3
      unfold mStep; rw [kj]
      obtain ⟨o', k1, k2, _⟩ := h3 0
      obtain rfl : o' = oj := Option.some.inj (k1.symm.trans hj)
      refine ⟨_, hj, k2.unput x1 hsj, ?_⟩
      simp only [ki]
      refine ⟨_, hi, h2, h2b, h2c, h2d, fun x => ?_⟩
      obtain ⟨o'', k1', k2', k3'⟩ := h3 x
      obtain rfl : o'' = _ := Option.some.inj (k1'.symm.trans hj)
      rw [← xc]; exact k3'
    | al T Z =>
      simp only [kj] at h3
      unfold mStep; rw [kj]
      obtain ⟨o', k1, k2, k3, k4, k5, _⟩ := h3 0
      obtain rfl : o' = oj := Option.some.inj (k1.symm.trans hj)
      rw [updF_other _ hne] at k5
      refine ⟨_, hj, k2, k3, k4, k5, fun y => ?_⟩
      simp only [ki]
      refine ⟨_, hi, h2, h2b, h2c, by rw [updF_other _ (fun e => hne e.symm)]; exact h2d, fun x => ?_⟩
      obtain ⟨o'', k1', _, _, _, _, k6'⟩ := h3 x
      obtain rfl : o'' = _ := Option.some.inj (k1'.symm.trans hj)
      have := k6' y
      rw [updF_comm _ (fun e => hne e.symm), xc] at this
      exact this
    | st m T cs =>
      have hm : m ≠ i := hst m T cs kj
      simp only [kj] at h3
      unfold mStep; rw [kj]
      obtain ⟨o', g, c, k1, k2, k3, k4, _⟩ := h3 0
      obtain rfl : o' = oj := Option.some.inj (k1.symm.trans hj)
      rw [updF_other _ hm] at k2
      refine ⟨_, g, c, hj, k2, k3, k4.unmove x1, ?_⟩
      simp only [ki]
      refine ⟨_, hi, h2, h2b, h2c, by rw [updF_other _ (fun e => hm e.symm)]; exact h2d, fun x => ?_⟩
      obtain ⟨o'', g', c', k1', k2', _, _, k5'⟩ := h3 x
      obtain rfl : o'' = _ := Option.some.inj (k1'.symm.trans hj)
      rw [updF_other _ hm, k2] at k2'
      have eg : g = g' := by
        have := congrArg Res.blk (Option.some.inj k2')
        exact Option.some.inj this
      subst eg
      rw [updF_comm _ (fun e => hm e.symm), xc] at k5'
      exact k5'
  | st m0 T0 cs0 =>
    have hm0 : m0 ≠ j := hst' m0 T0 cs0 ki
    unfold mStep at h
    rw [ki] at h
    obtain ⟨o, g0, c0, h1, h2, h2b, h2c, h3⟩ := h
    obtain rfl : o = oi := Option.some.inj (h1.symm.trans hi)
    cases kj : kd j with
    | q u =>
      simp only [kj] at h3
      obtain ⟨o', k1, k2, k3⟩ := h3
      obtain rfl : o' = oj := Option.some.inj (k1.symm.trans hj)
      unfold mStep; rw [kj]
      refine ⟨_, hj, k2.unput x1 hsj, ?_⟩
      simp only [ki]
      exact ⟨_, g0, c0, hi, h2, h2b, h2c.move x3, by rw [← xc]; exact k3⟩
    | al T Z =>
      simp only [kj] at h3
      obtain ⟨o', k1, k2, k3, k4, k5, k6⟩ := h3
      obtain rfl : o' = oj := Option.some.inj (k1.symm.trans hj)
      rw [updF_other _ (fun e => hm0 e.symm)] at k5
      unfold mStep; rw [kj]
      refine ⟨_, hj, k2, k3, k4, k5, fun x => ?_⟩
      simp only [ki]
      refine ⟨_, g0, c0, hi, by rw [updF_other _ hm0]; exact h2, h2b, h2c.move x3, ?_⟩
      have := k6 x
      rw [updF_comm _ hm0, xc] at this
      exact this
    | st m T cs =>
      have hmm : m0 ≠ m := hss m0 T0 cs0 m T cs ki kj
      simp only [kj] at h3
      obtain ⟨o', g, c, k1, k2, k3, k4, k5⟩ := h3
      obtain rfl : o' = oj := Option.some.inj (k1.symm.trans hj)
      rw [updF_other _ (fun e => hmm e.symm)] at k2
      unfold mStep; rw [kj]
      refine ⟨_, g, c, hj, k2, k3, k4.unmove x1, ?_⟩
      simp only [ki]
      refine ⟨_, g0, c0, hi, by rw [updF_other _ hmm]; exact h2, h2b, h2c.move x3, ?_⟩
      rw [updF_comm _ hmm, xc] at k5
      exact k5
/-- whatever order is drawn -/
def mAll (P : Program) (md : Region.Mode) (ops : Array Oper) (C0 : World → Prop) (kd : Nat → MKd) (L : (Nat → Option Res) → Act → Prop) : Nat → Array Bool → (Nat → Option Res) → Act → Prop
  | 0, done, X, a => Region.ready md ops done = [] ∧ L X a
  | f + 1, done, X, a => (Region.ready md ops done = [] → L X a) ∧ ∀ i ∈ Region.ready md ops done, mStep P ops C0 kd i (mAll P md ops C0 kd L f (done.setIfInBounds i true)) X a
/-- the stores of a region go into variables of their own -/
def StApart (kd : Nat → MKd) : Prop := ∀ i j m T cs m' T' cs', i ≠ j → kd i = .st m T cs → kd j = .st m' T' cs' → m ≠ m'
/-- a store waits for what makes its variable -/
def StWaits (md : Region.Mode) (ops : Array Oper) (kd : Nat → MKd) : Prop := ∀ j m T cs, kd j = .st m T cs → m < ops.size → ∃ oj, ops[j]? = some oj ∧ ∃ e ∈ oj.after, Region.binds md e = true ∧ e.on = m
theorem mAll_first {kd : Nat → MKd} {L : (Nat → Option Res) → Act → Prop} {i : Nat} {oi : Oper} (hi : ops[i]? = some oi) (hsel : ∀ (j : Nat) (o : Oper) cs b, ops[j]? = some o → o.op ≠ .select cs b) (hA : StApart kd) (hW : StWaits md ops kd) (f : Nat) :
    ∀ done X a, FreeOf md ops i oi done → i ∈ Region.ready md ops done → mStep P ops C0 kd i (mAll P md ops C0 kd L f (done.setIfInBounds i true)) X a → mAll P md ops C0 kd L (f + 1) done X a := by
  induction f with
  | zero =>
    intro done X a hf hr hh
    refine ⟨fun h => (by rw [h] at hr; cases hr), fun j hj => ?_⟩
    by_cases e : j = i
    · rw [e]; exact hh
    · have key : Region.ready md ops (done.setIfInBounds i true) = [] := by
        unfold mStep at hh
        split at hh
        · obtain ⟨_, _, _, h3⟩ := hh; exact h3.1
        · obtain ⟨_, _, _, _, _, _, h3⟩ := hh; exact (h3 0).1
        · obtain ⟨_, _, _, _, _, _, _, h3⟩ := hh; exact h3.1
      have := ready_mono hj e
      rw [key] at this
      cases this
  | succ f ih =>
    intro done X a hf hr hh
    refine ⟨fun h => (by rw [h] at hr; cases hr), fun j hj => ?_⟩
    by_cases e : j = i
    · rw [e]; exact hh
    · obtain ⟨hun, oj, hoj, hall⟩ := mem_ready.1 hj
      have hnot : ∀ x ∈ oj.after, Region.binds md x = true → x.on ≠ i := by
        intro x hx hb hxi
        have h1 := hall x hx hb
        rw [hxi, getD_both (mem_ready.1 hr).1] at h1
        cases h1
      have hap := hf j oj hoj e hun hnot
      have hil : i < ops.size := (Array.getElem?_eq_some_iff.1 hi).1
      have hjl : j < ops.size := (Array.getElem?_eq_some_iff.1 hoj).1
      have h2 := mStep_mono (fun X1 a1 h1 => h1.2 j (ready_mono hj e)) hh
      have h3 := mStep_swap hi hoj e hap (fun cs b => hsel i oi cs b hi) (fun cs b => hsel j oj cs b hoj) (fun m T cs hk hm => by
          obtain ⟨o', ho', x, hx, hb, hxm⟩ := hW j m T cs hk (by omega)
          obtain rfl : o' = oj := Option.some.inj (ho'.symm.trans hoj)
          exact hnot x hx hb (by omega)) (fun m T cs hk hm => by
          obtain ⟨o', ho', x, hx, hb, hxm⟩ := hW i m T cs hk (by omega)
          obtain rfl : o' = oi := Option.some.inj (ho'.symm.trans hi)
          obtain ⟨_, oi', hoi', hall'⟩ := mem_ready.1 hr
          obtain rfl : oi' = _ := Option.some.inj (hoi'.symm.trans hi)
          have h1 := hall' x hx hb
          rw [hxm, hm, getD_both hun] at h1
          cases h1) (fun m T cs m' T' cs' hki hkj => hA i j m T cs m' T' cs' (fun x => e x.symm) hki hkj) h2
      refine mStep_mono (fun X1 a1 h4 => ih _ X1 a1 (hf.more hun) (ready_mono hr (fun x => e x.symm)) ?_) h3
      rw [Array.setIfInBounds_comm _ _ (fun x => e x)]
      exact h4
/-- in the order of the text -/
def mSeq (P : Program) (ops : Array Oper) (C0 : World → Prop) (kd : Nat → MKd) (L : (Nat → Option Res) → Act → Prop) : Nat → Nat → (Nat → Option Res) → Act → Prop
  | 0, _ => L
  | n + 1, k => mStep P ops C0 kd k (mSeq P ops C0 kd L n (k + 1))
theorem mAll_lex {kd : Nat → MKd} {L : (Nat → Option Res) → Act → Prop} (hsel : ∀ (j : Nat) (o : Oper) cs b, ops[j]? = some o → o.op ≠ .select cs b) (hA : StApart kd) (hW : StWaits md ops kd) : ∀ (n k : Nat) (done : Array Bool) (X : Nat → Option Res) (a : Act),
    (n = 0 ∨ k + n = ops.size) → Region.lexFrom md ops n k done = true → mSeq P ops C0 kd L n k X a → mAll P md ops C0 kd L n done X a
  | 0, _, _, _, _, _, hB, h => ⟨by simpa [Region.lexFrom] using hB, h⟩
  | n + 1, k, done, X, a, hk, hB, h => by
    simp only [Region.lexFrom, Bool.and_eq_true] at hB
    obtain ⟨⟨hr, hf⟩, hB'⟩ := hB
    have hkl : k < ops.size := by omega
    have h0 : ops[k]? = some ops[k] := Array.getElem?_eq_getElem hkl
    exact mAll_first h0 hsel hA hW n done X a (Region.free_spec h0 hf) (by simpa using hr) (mStep_mono (fun X1 a1 h1 => mAll_lex hsel hA hW n (k + 1) _ X1 a1 (by omega) hB' h1) h)
theorem run_storeVar_cells (w : World) (g : Nat) (T : TypeId) (v : Value) (cs : List Value) (hv : v.cells = cs.toArray) (ht : w.there g 0 cs.length) (hi : (P.info? T).map (·.size) = some cs.length) (h1 : cs.all (·.oneCell') = true) :
    (storeVar T ⟨g, 0, none⟩ v).run P w = .ok () (w.setCells g 0 cs) := by
  have := run_storeCells_cells (P := P) g 0 cs 0 w (fun j hj => by simpa using (ht j hj).1) (fun j hj => by simpa using (ht j hj).2) (fun v hv => List.all_eq_true.1 h1 v hv)
  cases hq : P.info? T with
  | none => simp [hq] at hi
  | some i =>
    have hs : cs.length = i.size := by simp [hq] at hi; omega
    simp only [Nat.add_zero] at this
    simp [storeVar, sizeOf, typeInfo, hq, hv, hs, this]
theorem At.fill {w : World} {g : Nat} {t : TypeId} {c cs : List Value} (hA : At w g t c) (hl : c.length = cs.length) : At (w.setCells g 0 cs) g t cs := by
  have hblk : ∀ (vs : List Value) (o : Nat) (X : World) (c : List Value), At X g t c → ∃ c', At (X.setCells g o vs) g t c' ∧ c'.length = c.length := by
    intro vs
    induction vs with
    | nil => intro o X c hc; exact ⟨c, hc, rfl⟩
    | cons v r ih =>
      intro o X c hc
      obtain ⟨c', h1, h2⟩ := ih (o + 1) _ _ (hc.set_ o v)
      exact ⟨c', h1, by rw [h2, List.length_set]⟩
  obtain ⟨c', h2, h3⟩ := hblk cs 0 w c hA
  have ht : w.there g 0 cs.length := fun j hj => ⟨by rw [Nat.zero_add, hA.cell, List.getElem?_eq_getElem (by omega)]; rfl, hA.free _⟩
  have e : c' = cs := by
    refine List.ext_getElem (by omega) fun j hj hj' => ?_
    have a1 := h2.cell j
    have a2 := World.rangeAt_setCells_same w g 0 cs ht j cs[j] (by simp)
    rw [Nat.zero_add, a1, List.getElem?_eq_getElem hj] at a2
    exact Option.some.inj a2
  rw [e] at h2
  exact h2
theorem mAll_sound {kd : Nat → MKd} {L : (Nat → Option Res) → Act → Prop} {Q : Exit → Act → World → Prop} (lq : List Res) (N : Nat) (hN : ops.size ≤ N) (hC : ∀ W, MemX E w0 W lq → C0 W)
    (hst : ∀ i m T cs, kd i = .st m T cs → m < ops.size ∨ N + lq.length ≤ m) (h : ∀ X a W, MemF E w0 W X → L X a → Q .normal a W) : ∀ (f : Nat) (done : Array Bool) (X : Nat → Option Res) (a : Act) (W : World),
    (∀ k r, lq[k]? = some r → X (N + k) = some r) → MemF E w0 W X → mAll P md ops C0 kd L f done X a → wpAny P md ops Q f done a W
  | 0, _, X, a, W, _, hM, hh => ⟨hh.1, h X a W hM hh.2⟩
  | f + 1, done, X, a, W, hX, hM, hh => by
    refine ⟨fun h0 => h X a W hM (hh.1 h0), fun i hi => ?_⟩
    have hs := hh.2 i hi
    have hmem : MemX E w0 W lq := MemX.ofF hM (fun k => N + k) (fun i j _ _ e => by omega) hX
    have hil : i < ops.size := by
      obtain ⟨_, oi, hoi, _⟩ := mem_ready.1 hi
      exact (Array.getElem?_eq_some_iff.1 hoi).1
    unfold mStep at hs
    split at hs
    · obtain ⟨o, h1, h2, h3⟩ := hs
      have hq : qOp P ops (Ab W) i (fun a' => a' = a.put o.dst _) a := (h2 W (hC W hmem)).qOp h1 rfl
      refine wpOp_of_qOp (Ab.same W) (fun a' w' hw' e => ?_) hq
      rw [e]
      exact mAll_sound lq N hN hC hst h f _ X _ w' hX (hM.kept hw') h3
    · rename_i T Z hk
      obtain ⟨o, h1, h2, h3, h4, h5, h6⟩ := hs
      unfold wpOp
      simp only [h1]
      have hwt : Region.wanted o (yielded ops a.tmps) = true := by unfold Region.wanted; rw [h3]
      rw [if_pos hwt]
      left
      unfold Oper.wp execOp
      simp only [h2, Instr.alloc, newVar, newRow, h4, Value.cells, Sem.run_bind, Sem.run_pure, Result.andThen_ok, run_newObj_alloc]
      have hnew : At (W.alloc (.cells Z.toArray T)) W.heap.size T Z := At.new_ W T Z
      refine mAll_sound lq N hN hC hst h f _ _ _ _ (fun k r hr => ?_) (hM.put i none (fun g hg => by cases hg) (only_alloc (only_refl _ _) _) (atR_stab _ _ _) hnew (fun g hg => ?_)) (h6 W.heap.size)
      · rw [updF_other _ (by omega)]; exact hX k r hr
      · have : W.heap.size = g := Option.some.inj (show some W.heap.size = some g from hg)
        subst this
        exact ⟨.inr (Nat.le_refl _), by simp⟩
    · rename_i m T cs hk
      obtain ⟨o, g, c, h1, h2, h3, h4, h5⟩ := hs
      obtain ⟨k1, k2, ⟨p, y, k3, k4, k5⟩, k6, k7⟩ := h4
      have hA : At W g T c := hM.p m _ h2
      have ht : W.there g 0 cs.length := fun j hj => ⟨by rw [Nat.zero_add, hA.cell, List.getElem?_eq_getElem (by omega)]; rfl, hA.free _⟩
      unfold wpOp
      simp only [h1]
      have hwt : Region.wanted o (yielded ops a.tmps) = true := by unfold Region.wanted; rw [k2]
      rw [if_pos hwt]
      left
      unfold Oper.wp execOp
      simp only [k3, k4, Instr.storeAt, Instr.sureAddr, Sem.run_bind, Sem.run_pure, Result.andThen_ok, run_storeVar_cells W g T _ cs k5 ht k6 k7]
      refine mAll_sound lq N hN hC hst h f _ _ _ _ (fun k r hr => ?_) (hM.put m (some g) (fun g' hg => ⟨_, h2, hg⟩) (setCells_grownBy g cs 0 W) (atR_stab _ _ _) (hA.fill h3) (fun g' hg => ?_)) h5
      · have hkl := (List.getElem?_eq_some_iff.1 hr).1
        have := hst i m T cs hk
        rw [updF_other _ (by omega)]; exact hX k r hr
      · have : g = g' := Option.some.inj (show some g = some g' from hg)
        subst this
        exact ⟨.inl rfl, (hA.fill h3).lt⟩
end
/-- the operations behind the quiet head, one by one -/
def restM (P : Program) (C0 : World → Prop) (L : (Nat → Option Res) → Act → Prop) : List MKd → List Oper → Nat → (Nat → Option Res) → Act → Prop
  | [], _, _, X, a => L X a
  | .q v :: ks, o :: r, i, X, a => (∃ x, (o.op = .assign x ∨ o.op = .move x) ∧ o.guard = none ∧ a.eval x = v) ∧ restM P C0 L ks r (i + 1) X (a.put o.dst v)
  | .al T Z :: ks, o :: r, i, X, a => o.op = .alloc T ∧ o.guard = none ∧ (∀ W, (zeroValue T).run P W = .ok (.agg Z.toArray) W) ∧ X i = none ∧ ∀ x, restM P C0 L ks r (i + 1) (updF X i (atR x T Z)) (a.put o.dst (.pointer (some ⟨x, 0, none⟩)))
  | .st m T cs :: ks, o :: r, i, X, a => (∃ g c p y, X m = some (atR g T c) ∧ c.length = cs.length ∧ o.dst = none ∧ o.guard = none ∧ o.op = .store T p y ∧ a.eval p = .pointer (some ⟨g, 0, none⟩) ∧ (a.eval y).cells = cs.toArray ∧
      (P.info? T).map (·.size) = some cs.length ∧ cs.all (·.oneCell') = true ∧ restM P C0 L ks r (i + 1) (updF X m (atR g T cs)) (a.put o.dst undef))
  | _ :: _, [], _, _, _ => False
def stNums : List MKd → List Nat
  | [] => []
  | .st m _ _ :: r => m :: stNums r
  | _ :: r => stNums r
def nodupB : List Nat → Bool
  | [] => true
  | x :: r => !r.contains x && nodupB r
/-- what is asked of the kinds -/
def mixB (l : List Oper) (lqn : Nat) : List MKd → Nat → Bool
  | [], _ => true
  | .st m _ _ :: r, i => (decide (l.length + lqn ≤ m) || (match l[i]? with | some o => o.after.any (fun e => Region.binds .any e && e.on == m) | none => false) && decide (m < l.length)) && mixB l lqn r (i + 1)
  | _ :: r, i => mixB l lqn r (i + 1)
section
variable {E : Nat → Prop} {P : Program} {l : List Oper} {w0 : World} {C0 : World → Prop} {L : (Nat → Option Res) → Act → Prop}
theorem mem_stNums {m : Nat} {T : TypeId} {cs : List Value} : ∀ {ks : List MKd} {i : Nat}, ks[i]? = some (.st m T cs) → m ∈ stNums ks
  | [], _, h => by simp at h
  | k :: r, 0, h => by simp at h; subst h; simp [stNums]
  | k :: r, i + 1, h => by
    have := mem_stNums (ks := r) (i := i) (by simpa using h)
    cases k <;> simp [stNums, this]
theorem stNums_apart {m m' : Nat} {T T' : TypeId} {cs cs' : List Value} : ∀ {ks : List MKd} {i j : Nat}, nodupB (stNums ks) = true → i ≠ j → ks[i]? = some (.st m T cs) → ks[j]? = some (.st m' T' cs') → m ≠ m'
  | [], _, _, _, _, h, _ => by simp at h
  | k :: r, 0, 0, _, hne, _, _ => by omega
  | k :: r, 0, j + 1, hn, _, h, h' => by
    simp at h; subst h
    have := mem_stNums (ks := r) (i := j) (by simpa using h')
    simp [stNums, nodupB] at hn
    intro e; subst e; exact hn.1 this
  | k :: r, i + 1, 0, hn, _, h, h' => by
    simp at h'; subst h'
    have := mem_stNums (ks := r) (i := i) (by simpa using h)
    simp [stNums, nodupB] at hn
    intro e; subst e; exact hn.1 this
  | k :: r, i + 1, j + 1, hn, hne, h, h' => by
    refine stNums_apart (ks := r) (i := i) (j := j) ?_ (by omega) (by simpa using h) (by simpa using h')
    cases k <;> simp [stNums, nodupB] at hn ⊢ <;> first | exact hn | exact hn.2
theorem mixB_spec {lqn : Nat} {m : Nat} {T : TypeId} {cs : List Value} : ∀ {ks : List MKd} {b i : Nat}, mixB l lqn ks b = true → ks[i]? = some (.st m T cs) → l.length + lqn ≤ m ∨ (m < l.length ∧ ∃ o, l[b + i]? = some o ∧ ∃ e ∈ o.after, Region.binds .any e = true ∧ e.on = m)
  | [], _, _, _, h => by simp at h
  | k :: r, b, 0, hB, h => by
    simp at h; subst h
    simp only [mixB, Bool.and_eq_true, Bool.or_eq_true, decide_eq_true_eq] at hB
    rcases hB.1 with h1 | ⟨h1, h2⟩
    · exact .inl h1
    · refine .inr ⟨h2, ?_⟩
      cases ho : l[b]? with
      | none => rw [ho] at h1; cases h1
      | some o =>
        rw [ho] at h1
        simp only [Array.any_eq_true, Bool.and_eq_true, beq_iff_eq] at h1
        obtain ⟨i, hi, h3, h4⟩ := h1
        exact ⟨o, rfl, o.after[i], Array.getElem_mem hi, h3, h4⟩
  | k :: r, b, i + 1, hB, h => by
    have := mixB_spec (ks := r) (b := b + 1) (i := i) (by cases k <;> simp [mixB] at hB ⊢ <;> first | exact hB | exact hB.2) (by simpa using h)
    rw [show b + (i + 1) = b + 1 + i by omega]
    exact this
theorem yieldsIn_move {ops : Array Oper} {C : World → Prop} {o : Oper} {a : Act} {x : Operand} {v : Value} (h : o.op = .assign x ∨ o.op = .move x) (hg : o.guard = none) (hx : a.eval x = v) : YieldsIn P ops C o v a := by
  refine .inl ⟨by unfold Region.wanted; rw [hg], fun w _ => ?_⟩
  unfold Oper.quietAt execOp
  rcases h with h | h
  · rw [h]; exact ⟨rfl, hx⟩
  · rw [h]; exact ⟨rfl, hx⟩
theorem seq_rest {kd : Nat → MKd} : ∀ (ks : List MKd) (r : List Oper) (i : Nat) (X : Nat → Option Res) (a : Act), (∀ j, j < ks.length → kd (i + j) = (ks[j]?).getD (.q undef)) → (∀ j, j < ks.length → r[j]? = l[i + j]?) → restM P C0 L ks r i X a → mSeq P l.toArray C0 kd L ks.length i X a
  | [], _, _, _, _, _, _, h => h
  | k :: ks, [], i, X, a, _, _, h => by cases k <;> cases h
  | k :: ks, o :: r, i, X, a, hk, hr, h => by
    have hk0 : kd i = k := by have := hk 0 (by simp); simpa using this
    have ho : l.toArray[i]? = some o := by have := hr 0 (by simp); simpa using this.symm
    have step : ∀ X' a', restM P C0 L ks r (i + 1) X' a' → mSeq P l.toArray C0 kd L ks.length (i + 1) X' a' := fun X' a' h' => seq_rest ks r (i + 1) X' a'
      (fun j hj => by have := hk (j + 1) (by simp; omega); rw [show i + 1 + j = i + (j + 1) by omega, this]; simp)
      (fun j hj => by have := hr (j + 1) (by simp; omega); rw [show i + 1 + j = i + (j + 1) by omega, ← this]; simp) h'
    show mStep P l.toArray C0 kd i (mSeq P l.toArray C0 kd L ks.length (i + 1)) X a
    unfold mStep
    rw [hk0]
    cases k with
    | q v =>
      obtain ⟨⟨x, h1, h2, h3⟩, h4⟩ := h
      exact ⟨o, ho, fun w1 _ => yieldsIn_move h1 h2 h3, step _ _ h4⟩
    | al T Z =>
      obtain ⟨h1, h2, h3, h4, h5⟩ := h
      exact ⟨o, ho, h1, h2, h3, h4, fun x => step _ _ (h5 x)⟩
    | st m T cs =>
      obtain ⟨g, c, p, y, h1, h2, h3, h4, h5, h6, h7, h8, h9, h10⟩ := h
      exact ⟨o, g, c, ho, h1, h2, ⟨h3, h4, ⟨p, y, h5, h6, h7⟩, h8, h9⟩, step _ _ h10⟩
theorem seq_head {kd : Nat → MKd} {F : Act} {X : Nat → Option Res} {n : Nat} (w00 : World) (hC0 : C0 w00) : ∀ (l1 : List Oper) (k : Nat) (a : Act), (∀ j, j < l1.length → l1[j]? = l[k + j]?) → dstB a.tmps.size l1 = true →
    (∀ j, j < l1.length → ∀ o e, l1[j]? = some o → o.dst = some e → kd (k + j) = .q (F.eval (.tmp e))) →
    (∀ w1, C0 w1 → wpQuiet P l.toArray (Ab w1) (fun a' => a' = F) l1 a) → mSeq P l.toArray C0 kd L n (k + l1.length) X F → mSeq P l.toArray C0 kd L (l1.length + n) k X a
  | [], k, a, _, _, _, hq, h => by
    have : a = F := hq w00 hC0
    rw [this]; simpa using h
  | o :: l1, k, a, hl, hD, hk, hq, h => by
    have h0 : l.toArray[k]? = some o := by have := hl 0 (by simp); simpa using this.symm
    simp only [dstB, Bool.and_eq_true] at hD
    obtain ⟨hD1, hD2⟩ := hD
    obtain ⟨e, he, hlt, hnot⟩ : ∃ e, o.dst = some e ∧ e < a.tmps.size ∧ ∀ p ∈ l1, p.dst ≠ some e := by
      cases ho : o.dst with
      | none => rw [ho] at hD1; cases hD1
      | some e =>
        rw [ho] at hD1
        simp only [Bool.and_eq_true, decide_eq_true_eq, List.all_eq_true, bne_iff_ne] at hD1
        exact ⟨e, rfl, hD1.1, hD1.2⟩
    have hval : ∀ w1, C0 w1 → YieldsIn P l.toArray (Ab w1) o (F.eval (.tmp e)) a ∧ wpQuiet P l.toArray (Ab w1) (fun a' => a' = F) l1 (a.put o.dst (F.eval (.tmp e))) := by
      intro w1 hw1
      have h1 : qOp P l.toArray (Ab w1) k (wpQuiet P l.toArray (Ab w1) (fun a' => a' = F) l1) a := by unfold qOp; simp only [h0]; exact hq w1 hw1
      obtain ⟨v, hy, hK⟩ := yieldsIn_of_qOp h0 h1
      have hv := quiet_last l1 _ hnot hK
      rw [he, eval_put_same hlt] at hv
      rw [hv]
      exact ⟨hy, hK⟩
    rw [List.length_cons, show l1.length + 1 + n = (l1.length + n) + 1 by omega]
    show mStep P l.toArray C0 kd k (mSeq P l.toArray C0 kd L (l1.length + n) (k + 1)) X a
    unfold mStep
    have hk0 := hk 0 (by simp) o e (by simp) he
    rw [Nat.add_zero] at hk0
    rw [hk0]
    refine ⟨o, h0, fun w1 hw1 => (hval w1 hw1).1, ?_⟩
    refine seq_head w00 hC0 l1 (k + 1) _ (fun j hj => ?_) (by rw [put_size]; exact hD2) (fun j hj o' e' ho' he' => ?_) (fun w1 hw1 => (hval w1 hw1).2) (by rw [List.length_cons] at h; rw [show k + 1 + l1.length = k + (l1.length + 1) by omega]; exact h)
    · have := hl (j + 1) (by simp; omega); rw [show k + 1 + j = k + (j + 1) by omega, ← this]; simp
    · have := hk (j + 1) (by simp; omega) o' e' (by simpa using ho') he'; rw [show k + 1 + j = k + (j + 1) by omega]; exact this
/-- what is known at the start: the things of lq, which no store of the region goes to, then those of ls -/
def X0 (N : Nat) (l : List Res) : Nat → Option Res := fun i => if i < N then none else l[i - N]?
theorem wp_region_mix {id : Nat} {Q : Exit → Act → World → Prop} {a : Act} {w : World} (m : Nat) (ks : List MKd) (lq ls : List Res) (hM : MemX E w0 w (lq ++ ls)) (hm : P.follows .mixedOrders = true) (hB : Region.lexB .any l.toArray = true)
    (hK : (mixB l lq.length ks m && nodupB (stNums ks) && decide (m + ks.length = l.length)) = true) (hD : dstB a.tmps.size (l.take m) = true)
    (h : ∃ F, (∀ w1, MemX E w0 w1 lq → (∀ (u : Later w1) (b o : Nat), b < w1.heap.size → u.now.cell? ⟨b, o, none⟩ = w1.cell? ⟨b, o, none⟩) → wpQuiet P l.toArray (fun w' => ∃ u : Later w1, w' = u.now) (fun a' => a' = F) (l.take m) a) ∧
      restM P (fun W => MemX E w0 W lq) (fun X a' => ∀ W, MemF E w0 W X → Q .normal a' W) ks (l.drop m) m (X0 l.length (lq ++ ls)) F) : (Code.region id l.toArray true).wp P Q a w := by
  obtain ⟨F, hq, hr⟩ := h
  simp only [Bool.and_eq_true, decide_eq_true_eq] at hK
  obtain ⟨⟨hK1, hK2⟩, hK3⟩ := hK
  simp only [Region.lexB, Bool.and_eq_true] at hB
  obtain ⟨hsel, hlex⟩ := hB
  have hlm : (l.take m).length = m := by rw [List.length_take]; omega
  let kd : Nat → MKd := fun i => if i < m then .q (match l[i]? with | some o => (match o.dst with | some e => F.eval (.tmp e) | none => undef) | none => undef) else (ks[i - m]?).getD (.q undef)
  have kdr : ∀ i m' T cs, kd i = .st m' T cs → m ≤ i ∧ ks[i - m]? = some (.st m' T cs) := by
    intro i m' T cs hi
    simp only [kd] at hi
    split at hi
    · cases hi
    · refine ⟨by omega, ?_⟩
      cases hk : ks[i - m]? with
      | none => rw [hk] at hi; cases hi
      | some k => rw [hk] at hi; simp at hi; rw [hi]
  have hA : StApart kd := by
    intro i j m1 T cs m2 T' cs' hij h1 h2
    obtain ⟨a1, a2⟩ := kdr i _ _ _ h1
    obtain ⟨b1, b2⟩ := kdr j _ _ _ h2
    exact stNums_apart hK2 (by omega) a2 b2
  have hW : StWaits .any l.toArray kd := by
    intro j m1 T cs h1 hlt
    obtain ⟨a1, a2⟩ := kdr j _ _ _ h1
    rcases mixB_spec hK1 a2 with h3 | ⟨_, o, ho, h3⟩
    · simp at hlt; omega
    · rw [show m + (j - m) = j by omega] at ho
      exact ⟨o, by simpa using ho, h3⟩
  have hlate : ∀ w1, (fun w' => ∃ u : Later w1, w' = u.now) = Ab w1 := by
    intro w1
    funext w'
    apply propext
    constructor
    · rintro ⟨u, rfl⟩; exact u.still
    · intro h; exact ⟨⟨w', h⟩, rfl⟩
  have hMq : MemX E w0 w lq := by have := hM.take_ lq.length; simpa using this
  have hseq : mSeq P l.toArray (fun W => MemX E w0 W lq) kd (fun X a' => ∀ W, MemF E w0 W X → Q .normal a' W) l.length 0 (X0 l.length (lq ++ ls)) a := by
    have h1 := seq_head (P := P) (l := l) (C0 := fun W => MemX E w0 W lq) (kd := kd) (F := F) (n := ks.length) (X := X0 l.length (lq ++ ls)) (L := fun X a' => ∀ W, MemF E w0 W X → Q .normal a' W) w hMq (l.take m) 0 a
      (fun j hj => by rw [hlm] at hj; simp [hj]) hD
      (fun j hj o e ho he => by
        rw [hlm] at hj
        simp only [kd, Nat.zero_add, hj, if_true]
        have : l[j]? = some o := by rw [List.getElem?_take, if_pos hj] at ho; exact ho
        rw [this]; simp [he])
      (fun w1 hw1 => by
        have := hq w1 hw1 (fun u b o hb => u.still.cell (p := ⟨b, o, none⟩) hb)
        rw [hlate] at this; exact this)
      (by
        rw [hlm, Nat.zero_add]
        refine seq_rest (l := l) ks (l.drop m) m _ F (fun j hj => ?_) (fun j hj => by rw [List.getElem?_drop]) hr
        simp only [kd]
        rw [if_neg (by omega), show m + j - m = j by omega])
    rw [hlm, hK3] at h1
    exact h1
  refine wp_region_any hm ?_
  have hall := mAll_lex (fun j o cs b hj => Region.noSelect_spec hsel j o cs b hj) hA hW l.toArray.size 0 _ _ _ (.inr (by simp)) hlex (by simpa using hseq)
  refine mAll_sound lq l.length (by simp) (fun W hW => hW) (fun i m' T cs hi => ?_) (fun X a' W hX hL => hL W hX) _ _ _ _ _ (fun k r hk => ?_) ((hM.toF l.length).kept (Below.refl _ _).drew) hall
  · obtain ⟨a1, a2⟩ := kdr i _ _ _ hi
    rcases mixB_spec hK1 a2 with h3 | ⟨h3, _⟩
    · exact .inr h3
    · exact .inl (by simpa using h3)
  · have hkl := (List.getElem?_eq_some_iff.1 hk).1
    show (if l.length + k < l.length then none else (lq ++ ls)[l.length + k - l.length]?) = some r
    rw [if_neg (by omega), show l.length + k - l.length = k by omega, List.getElem?_append_left hkl]
    exact hk
theorem MemX.ofL {w W : World} {X : Nat → Option Res} {l' : List Res} (h : MemF E w W X) (js : List Nat) (hn : js.Nodup) (hl : js.map X = l'.map some) : MemX E w W l' := by
  have hlen : js.length = l'.length := by have := congrArg List.length hl; simpa using this
  refine MemX.ofF h (fun i => js.getD i 0) (fun i j hi hj e => ?_) (fun i r hr => ?_)
  · have hi' : i < js.length := by omega
    have hj' : j < js.length := by omega
    simp only [List.getD_eq_getElem?_getD, List.getElem?_eq_getElem hi', List.getElem?_eq_getElem hj', Option.getD_some] at e
    exact (List.getElem_inj hn).1 e
  · have hi : i < l'.length := (List.getElem?_eq_some_iff.1 hr).1
    have hi' : i < js.length := by omega
    have h1 := congrArg (fun z => z[i]?) hl
    simp only [List.getElem?_map, hr, Option.map_some, List.getElem?_eq_getElem hi'] at h1
    simp only [List.getD_eq_getElem?_getD, List.getElem?_eq_getElem hi', Option.getD_some]
    exact Option.some.inj h1
end
/-- The same, no store going to what was there; and what is known behind it, read off by numbers: j < N is what operation j made, N + j the j-th of lq. -/
theorem wp_region_mix0 {E : Nat → Prop} {P : Program} {l : List Oper} {w0 : World} {id : Nat} {Q : Exit → Act → World → Prop} {a : Act} {w : World} (m N : Nat) (ks : List MKd) (lq : List Res) (hM : MemX E w0 w lq) (hm : P.follows .mixedOrders = true) (hB : Region.lexB .any l.toArray = true)
    (hK : (mixB l lq.length ks m && nodupB (stNums ks) && decide (m + ks.length = l.length)) = true) (hD : dstB a.tmps.size (l.take m) = true) (hN : l.length = N)
    (h : ∃ F, (∀ w1, MemX E w0 w1 lq → (∀ (u : Later w1) (b o : Nat), b < w1.heap.size → u.now.cell? ⟨b, o, none⟩ = w1.cell? ⟨b, o, none⟩) → wpQuiet P l.toArray (fun w' => ∃ u : Later w1, w' = u.now) (fun a' => a' = F) (l.take m) a) ∧
      restM P (fun W => MemX E w0 W lq) (fun X a' => ∀ W, MemF E w0 W X → Q .normal a' W) ks (l.drop m) m (X0 N lq) F) : (Code.region id l.toArray true).wp P Q a w :=
  wp_region_mix m ks lq [] (hM.conv (List.append_nil _).symm) hm hB hK hD (by rw [hN, List.append_nil]; exact h)
theorem filter_all {X : Nat → Option Res} : ∀ (js : List Nat), (js.all fun i => (X i).isSome) = true → js.map X = (js.filterMap X).map some
  | [], _ => rfl
  | j :: js, h => by
    simp only [List.all_cons, Bool.and_eq_true] at h
    obtain ⟨r, hr⟩ := Option.isSome_iff_exists.1 h.1
    simp only [List.map_cons, List.filterMap_cons, hr]
    rw [filter_all js h.2]
theorem MemX.ofLf {E : Nat → Prop} {w W : World} {X : Nat → Option Res} (h : MemF E w W X) (js : List Nat) (hn : js.Nodup) (hl : (js.all fun i => (X i).isSome) = true) : MemX E w W (js.filterMap X) := MemX.ofL h js hn (filter_all js hl)
end Go.Proofs.Ytfpifahkpkjfgaa
