/- What ConnStops needs, a part: CnKj, CnKb, CnKh, CnQv. -/
import Derived.Deep.CutBlock
import Derived.Test.YtfpifahkpkjfgaaMConnStops43
namespace Go.Proofs.Ytfpifahkpkjfgaa
open Go.RowKit Go.Lib
set_option linter.unusedVariables false
set_option linter.unusedSimpArgs false
structure SG (c : KCn) : Prop where
 same : c.same = 0
 gone : c.gone = 0
def Sg1 (c d : KCn) : Prop := d.o.una = c.o.una ∨ SG d
section
variable {c d : KCn} {g : KSeg}
theorem Sg1.of {d' : KCn} (h : Sg1 c d) (h1 : d'.o.una = d.o.una) (h2 : d'.same = d.same) (h3 : d'.gone = d.gone) : Sg1 c d' := by
 rcases h with h | h
 ·exact .inl (h1.trans h)
 ·exact .inr ⟨h2.trans h.same, h3.trans h.gone⟩
theorem sg_settle (h : Sg1 c d) : Sg1 c (cSettle d) := by
 obtain ⟨x, hx, -⟩ := cSettle_is d
 rw [hx]
 exact h.of rfl rfl rfl
theorem sg_takes (h : Sg1 c d) (g : KSeg) (p : Int) : Sg1 c (cTakes d g p) := by
 unfold cTakes cTakes1
 refine h.of ?_ ?_ ?_
 all_goals
  dsimp only
  split
  ·split
   ·split
    ·rfl
    ·split <;> rfl
   ·rfl
  ·split <;> rfl
theorem sg_acks2 (c : KCn) (g : KSeg) (p k : Int) : Sg1 c (cAcks2 c g p k).1 := by
 by_cases hs : c.o.sent < k
 ·unfold cAcks2
  rw [if_pos hs]
  exact .inl rfl
 ·obtain ⟨c1, h1⟩ : ∃ z : KCn, z = if c.o.una < k then cAckd c k else if k = c.o.una ∧ sgLen g = 0 ∧ c.o.una < c.o.cur ∧ g.win = c.wnd then cSame c g else c := ⟨_, rfl⟩
  obtain ⟨c2, h2⟩ : ∃ z : KCn, z = if c.o.una < k ∨ (k = c.o.una ∧ (c.wat < p ∨ (p = c.wat ∧ c.wak ≤ k))) then { c1 with wnd := g.win, wat := p, wak := k } else c1 := ⟨_, rfl⟩
  rw [acks2_of hs h1 h2]
  have e1 : Sg1 c c1 := by
   rw [h1]
   split
   ·exact .inr ⟨rfl, rfl⟩
   ·split
    ·unfold cSame
     split <;> exact .inl rfl
    ·exact .inl rfl
  have e2 : Sg1 c c2 := by
   rw [h2]
   split
   ·exact e1.of rfl rfl rfl
   ·exact e1
  split
  ·split
   ·exact e2.of rfl rfl rfl
   ·split
    ·exact e2.of rfl rfl rfl
    ·split
     ·exact e2.of rfl rfl rfl
     ·exact e2
  ·exact e2
theorem sg_acks (c : KCn) (g : KSeg) (p : Int) : Sg1 c (cAcks c g p).1 := by
 unfold cAcks
 split
 ·split
  ·exact .inl rfl
  ·exact sg_acks2 { c with st := if c.shut then 4 else 3 } g p _
 ·exact sg_acks2 c g p _
theorem sg_next (c : KCn) (g : KSeg) : Sg1 c (cNext c g) := by
 unfold cNext
 split
 ·split <;> exact .inl rfl
 ·split
  ·exact .inl rfl
  ·split
   ·exact .inl rfl
   ·split
    ·split
     ·exact sg_takes (sg_acks c g _) g _
     ·exact sg_acks c g _
    ·exact .inl rfl
theorem sg_in (h1 : c.st ≠ 1) (g : KSeg) : Sg1 c (cIn c g) := by
 unfold cIn
 split
 ·exact .inl rfl
 ·try rw [if_neg h1]
  exact sg_settle (sg_next c g)
theorem loop_sg (lim : Int) : ∀ (f : Nat) (c : KCn) (l : List KSeg), (cLoop f c lim l).1.same = c.same ∧ (cLoop f c lim l).1.gone = c.gone
  | 0, c, l => ⟨rfl, rfl⟩
  | f + 1, c, l => by
    unfold cLoop
    split
    · have h := loop_sg lim f (cStep c lim) (l ++ [cSegm c (cPc c lim)])
      have h2 : (cStep c lim).same = c.same ∧ (cStep c lim).gone = c.gone := by unfold cStep; split <;> exact ⟨rfl, rfl⟩
      exact ⟨h.1.trans h2.1, h.2.trans h2.2⟩
    · exact ⟨rfl, rfl⟩
theorem out_sg (c : KCn) : (cOut c).1.same = c.same ∧ (cOut c).1.gone = c.gone := by
 unfold cOut
 dsimp only
 split
 ·exact ⟨rfl, rfl⟩
 ·unfold cTail
  dsimp only
  have hx : ∀ d : KCn, (cSettle d).same = d.same ∧ (cSettle d).gone = d.gone := fun d => by
   obtain ⟨x, hx, -⟩ := cSettle_is d
   rw [hx]
   exact ⟨rfl, rfl⟩
  rw [(hx _).1, (hx _).2]
  exact loop_sg _ _ _ _
theorem loop_una (lim : Int) : ∀ (f : Nat) (c : KCn) (l : List KSeg), (cLoop f c lim l).1.o.una = c.o.una
  | 0, c, l => rfl
  | f + 1, c, l => by
    unfold cLoop
    split
    · have h := loop_una lim f (cStep c lim) (l ++ [cSegm c (cPc c lim)])
      have h2 : (cStep c lim).o.una = c.o.una := by unfold cStep; split <;> rfl
      exact h.trans h2
    · rfl
theorem una_out (c : KCn) : (cOut c).1.o.una = c.o.una := by
 unfold cOut
 dsimp only
 split
 ·rfl
 ·unfold cTail
  dsimp only
  have hx : ∀ d : KCn, (cSettle d).o.una = d.o.una := fun d => by
   obtain ⟨x, hx, -⟩ := cSettle_is d
   rw [hx]
  rw [hx]
  exact loop_una _ _ _ _
theorem SG.out (h : SG c) : SG (cOut c).1 := ⟨(out_sg c).1.trans h.same, (out_sg c).2.trans h.gone⟩
def Stl (c : KCn) : Prop := c.st ≠ 0 → cSettle c = c
theorem settle_twice (c : KCn) : cSettle (cSettle c) = cSettle c := by
 by_cases h : c.st = 0 ∨ c.st = 9 ∨ ¬ cWaits c
 ·rw [settle_off h]
  exact settle_off (c := { c with clock := -1 }) h
 ·have e : cSettle c = if c.clock < 0 then { c with clock := c.now } else c := by unfold cSettle; rw [if_neg h]
  rw [e]
  split
  ·have e2 : cSettle { c with clock := c.now } = if c.now < 0 then { c with clock := c.now } else { c with clock := c.now } := by
    show (if c.st = 0 ∨ c.st = 9 ∨ ¬ cWaits { c with clock := c.now } then _ else _ : KCn) = _
    exact if_neg h
   rw [e2]
   split <;> rfl
  ·rename_i h2
   rw [e, if_neg h2]
theorem stl_out (c : KCn) : Stl (cOut c).1 := by
 intro h
 unfold cOut at h ⊢
 dsimp only at h ⊢
 split
 ·rename_i h0
  rw [if_pos h0] at h
  exact absurd h0 h
 ·exact settle_twice _
theorem Stl.off (h : Stl c) (h0 : c.st ≠ 0) (hw : ¬ cWaits c) : c.clock = -1 := by
 have e := h h0
 rw [settle_off (.inr (.inr hw))] at e
 rw [← e]
theorem Stl.on (h : Stl c) (h0 : c.st ≠ 0) (h9 : c.st ≠ 9) (hw : cWaits c) (hn : 0 ≤ c.now) : 0 ≤ c.clock := by
 by_cases hc : c.clock < 0
 ·have e := h h0
  rw [settle_on h0 h9 hw hc] at e
  have e2 : c.now = c.clock := congrArg KCn.clock e
  omega
 ·omega
end
theorem stl_sends {x y : KPr} (h : sends x = some y) : Stl y.a ∧ Stl y.b := by
 obtain ⟨h1, h2, _⟩ := sends_outs h
 rw [h1, h2]
 exact ⟨stl_out _, stl_out _⟩
theorem stl_qx : ∀ {k : Nat} {x y : KPr}, Qx k x y → Stl x.a ∧ Stl x.b → Stl y.a ∧ Stl y.b
  | 0, x, y, h, hx => by
    obtain ⟨h1, _⟩ := h
    subst h1
    exact hx
  | k + 1, x, y, h, hx => by
    obtain ⟨g, l, z, _, hq, h3⟩ := h
    obtain ⟨_, _, _, _, _, _, _, _, _, hs, _⟩ := hq
    exact stl_qx h3 (stl_sends hs)
section
variable {A B : KAd} {s r s' r' : KCn} {q : IQ} {N N' V D a win U C C' w E Z m Q L M n k ℓ : Int} {fl ow cl : Bool} {g : KSeg} {o : Nat} {ds : List KSeg} {R : Option Int} {W : KWd} {mr : Int} {sr : Bool} {O : OQ} {l air' : List KSeg} {x : MS}
theorem FMs.sg (h : FMs A B q V D R W mr sr O m ℓ L s r (g :: l) x N) (h2 : FMs A B q V D R W mr sr O m ℓ L s' r' air' (mstep m ℓ L x) N') (hs : s'.o.una = (cIn s g).o.una) (hta : g.ta = A.la) (hne : A.ra ≠ A.la) : SG (cIn s g) := by
  have hair := h.air
  have hst1 := h.fs.st0.2.1
  have hu := h.fs.una
  have hu2 := h2.fs.una
  obtain ⟨X, xw, xU, xC⟩ := x
  dsimp only at hair hu
  cases X with
  | nil => exact hair.elim
  | cons t X =>
    obtain ⟨b, n⟩ := t
    cases b with
    | true =>
      obtain ⟨d1, _⟩ := hair
      obtain ⟨_, _, a3, _⟩ := d1.ad
      exact absurd (a3.symm.trans hta) hne
    | false =>
      obtain ⟨d1, d2, d4⟩ := hair
      have e : (mstep m ℓ L ⟨(false, n) :: X, xw, xU, xC⟩).U = xU + n := rfl
      rw [e] at hu2
      rcases sg_in hst1 g with h3 | h3
      · omega
      · exact h3
end
section
variable {iss irs : Int} {N : Nat} {h : KGh} {q : IQ} {V D : Int} {R : Option Int} {W : KWd} {mr : Int} {sr : Bool} {O : OQ} {m ℓ L : Int}
def MKeeps (m ℓ L : Int) (J : MS → Prop) : Prop := ∀ x, J x → x.Z ≠ [] → (mstep m ℓ L x).Z.length ≤ 198 ∧ J (mstep m ℓ L x)
theorem mflow {J : MS → Prop} (hJ : MKeeps m ℓ L J) : ∀ (n : Nat) (t : Int) (x : KPr) (ms : MS) (M : Int), PI iss irs N t (gh h x) → FMs (adA iss) (adB irs) q V D R W mr sr O m ℓ L x.a x.b x.p.air ms M → J ms → muF x.a x.p.air ≤ n → t + n ≤ 100000000 →
    ∃ (k : Nat) (y : KPr) (ms' : MS) (M' : Int), k ≤ n ∧ Qx k x y ∧ PI iss irs N (t + k) (gh h y) ∧ FMs (adA iss) (adB irs) q V D R W mr sr O m ℓ L y.a y.b [] ms' M' ∧ J ms' ∧ y.p.air = [] ∧ qEnd y.a.o = qEnd x.a.o ∧ y.a.st = x.a.st ∧ (TZ x.a → TZ y.a) ∧ y.a.now = x.a.now ∧ y.b.now = x.b.now ∧ (SG x.a → SG y.a) := by
  intro n
  induction n with
  | zero =>
    intro t x ms M hP hF hj hm ht
    have ha : x.p.air = [] := by
      cases hx : x.p.air with
      | nil => rfl
      | cons g l =>
        rw [hx] at hm
        unfold muF wtA sgW at hm
        split at hm <;> omega
    rw [ha] at hF
    exact ⟨0, x, ms, M, Nat.le_refl 0, ⟨rfl, ha⟩, by simpa using hP, hF, hj, ha, rfl, rfl, id, rfl, rfl, id⟩
  | succ n ih =>
    intro t x ms M hP hF hj hm ht
    cases hx : x.p.air with
    | nil =>
      rw [hx] at hF
      exact ⟨0, x, ms, M, Nat.zero_le _, ⟨rfl, hx⟩, by simpa using hP, hF, hj, hx, rfl, rfl, id, rfl, rfl, id⟩
    | cons g l =>
      rw [hx] at hF hm
      obtain ⟨z, hq, hPz, hz⟩ := qok_pi hP hx (by omega)
      obtain ⟨z1, z2, z3, z4⟩ := sends_outs hz
      have hsg : SegOk g := by obtain ⟨_, _, _, _, h5, _⟩ := hq; exact h5
      have hca := hP.ciA
      have hcb := hP.ciB
      have hne : ms.Z ≠ [] := by
        intro e
        have := hF.air
        rw [e] at this
        exact this
      obtain ⟨j2, j3⟩ := hJ ms hj hne
      have key : (∃ M', FMs (adA iss) (adB irs) q V D R W mr sr O m ℓ L z.a z.b z.p.air (mstep m ℓ L ms) M') ∧ muF z.a z.p.air < muF x.a (g :: l) ∧ qEnd z.a.o = qEnd x.a.o ∧ z.a.st = x.a.st ∧ (TZ x.a → TZ z.a) ∧ z.a.now = x.a.now ∧ z.b.now = x.b.now ∧ (SG x.a → SG z.a) := by
        have hst1 := hF.fs.st0.2.1
        rcases hF.step (ad_to iss irs) (hca.cok (by omega)) ((hca.in_ (by omega) g hsg).1.cok (by omega)) j2 with ⟨⟨g1, g2, g3, g4, g5, g6⟩, g7, g8⟩ | ⟨⟨g1, g2, g3, g4, g5, g6⟩, g7, g8⟩
        · have hc : come ⟨x.a, x.b, { x.p with air := l }⟩ g = ⟨x.a, cIn x.b g, { x.p with air := l }⟩ := by unfold come; rw [if_pos ⟨g1, g2⟩]
          rw [hc] at z1 z2 z3
          dsimp only at z1 z2 z3
          rw [g3, List.foldl_nil, airP_app _ _ (by omega)] at z3
          rw [z1, z2, z3]
          exact ⟨g4, g5, g7, g8, fun h => h.out, now_out _, (now_out _).trans (now_in _ _), fun h => h.out⟩
        · have hc : come ⟨x.a, x.b, { x.p with air := l }⟩ g = ⟨cIn x.a g, x.b, { x.p with air := l }⟩ := by
            unfold come; rw [if_neg (fun e => by have h1 := g1.symm.trans e.1; exact absurd h1 (show ¬ (1 : Int) = 2 by decide))]
          rw [hc] at z1 z2 z3
          dsimp only at z1 z2 z3
          rw [g3, List.foldl_nil, airP_app _ _ (by omega)] at z3
          rw [z1, z2, z3]
          obtain ⟨M2, hM2⟩ := g4
          exact ⟨⟨M2, hM2⟩, g5, g7, g8, fun h => (h.in_ hst1 g).out, (now_out _).trans (now_in _ _), now_out _, fun _ => (hF.sg hM2 (una_out _) g1 (show (2 : Int) ≠ 1 by decide)).out⟩
      obtain ⟨⟨M1, k1⟩, k2, k3, k4, k5, k6, k7, k8⟩ := key
      obtain ⟨k, y, ms', M', i1, i2, i3, i4, i5, i6, i7, i8, i9, i10, i11, i12⟩ := ih (t + 1) z (mstep m ℓ L ms) M1 hPz k1 j3 (by omega) (by omega)
      exact ⟨k + 1, y, ms', M', by omega, ⟨g, l, z, hx, hq, i2⟩, by rw [show t + ((k + 1 : Nat) : Int) = t + 1 + k by omega]; exact i3, i4, i5, i6, i7.trans k3, i8.trans k4, fun h => i9 (k5 h), i10.trans k6, i11.trans k7, fun h => i12 (k8 h)⟩
def mstart (m L w U : Int) : MS := ⟨(cutZ 2100 m (upTo L (U + w) U - U)).map (fun k => (true, k)), w, U, upTo L (U + w) U⟩
theorem mflow_go {t : Int} {x y : KPr} {U w : Int} {J : MS → Prop} (hJ : MKeeps m ℓ L J) (hP : PI iss irs N t (gh h x)) (hy : sends x = some y) (hair : x.p.air = []) (ht : t ≤ 1000000)
  (hR : ∀ x, R = some x → 2048 - (endZ q - q.rd) = x) (hs : FSl (adA iss) (adB irs) x.a q V U U w (D + 2048) ℓ) (hsh : x.a.shut = false) (hmm : x.a.mss = m) (hr : FR (adA iss) (adB irs) x.b U V D R W mr sr O false false)
  (hL : L = (if qEnd x.a.o < D + 2048 then qEnd x.a.o else D + 2048)) (hUL : U ≤ L) (hL2 : qEnd x.a.o ≤ 4010) (hj : J (mstart m L w U)) (hl : (mstart m L w U).Z.length ≤ 198) :
  PI iss irs N t (gh h y) ∧ ∃ (k : Nat) (z : KPr) (ms : MS), k ≤ 8100 ∧ Qx k y z ∧ PI iss irs N (t + k) (gh h z) ∧ J ms ∧ ms.U = L ∧ z.p.air = [] ∧ qEnd z.a.o = qEnd x.a.o ∧ z.a.st = x.a.st ∧ z.a.shut = false ∧ z.a.mss = m ∧
   FSl (adA iss) (adB irs) z.a q V L L ms.w (D + 2048) ℓ ∧ FR (adA iss) (adB irs) z.b L V D R W mr sr O false false ∧ (TZ x.a → TZ z.a) ∧ z.a.now = x.a.now ∧ z.b.now = x.b.now ∧ (SG x.a → SG z.a) := by
 have hp := ad_to iss irs
 have hco := hP.ciA.cok (t := t) (by omega)
 have hpb : okP (adB irs).lp ∧ okP (adB irs).rp := ⟨(by decide : (0 : Int) < 80 ∧ (80 : Int) ≤ 65535), (by decide : (0 : Int) < 40000 ∧ (40000 : Int) ≤ 65535)⟩
 have hDN : D ≤ U ∧ 1 ≤ D := by
  obtain ⟨q', hh, ok, hn, hc, ho, hrd⟩ := hr.h
  have := (ok_open ok ho).1
  have := ok.rd1
  omega
 have hLD : L ≤ D + 2048 ∧ L ≤ qEnd x.a.o := by rw [hL]; split <;> omega
 have hu := hs.u1
 have hm := hs.m
 obtain ⟨b1, b2⟩ := hr.none (by simp; omega) hpb
 obtain ⟨C', o, n1, n2, n3, n4, n5, n6, n7, n8, n9⟩ := hs.out hR hp hco
 have hsz := out_sz hs hsh hR hp hco
 have hlim := sLim_is (w := w) (U := U) hL
 rw [hlim] at n3 hsz
 rw [hsh] at n2
 have hC' : C' = upTo L (U + w) U := by rw [n3]; rfl
 have hup := upTo_bd L (U + w) U hUL
 have hsz' : (cOut x.a).2.map sgLen = cutZ 2100 m (upTo L (U + w) U - U) := by
  rw [hsz, hmm]
  unfold upTo
  by_cases hc : U < (if U + w < L then U + w else L)
  ·rw [if_pos hc]
  ·rw [if_neg hc]
   conv => lhs; unfold cutZ
   conv => rhs; unfold cutZ
   rw [if_pos (by omega), if_pos (by omega)]
 have k6 := az_dats (D := D) (M := U) n2
 rw [hsz', hC'] at k6
 have hlen : (cOut x.a).2.length ≤ 198 := by rw [(az_len k6).1]; exact hl
 obtain ⟨z1, z2, z3, z4⟩ := sends_outs hy
 rw [b2, List.foldl_nil, hair, airP_app _ _ (by rw [List.nil_append]; omega), List.nil_append] at z3
 obtain ⟨y', hy', hPy, _, _⟩ := hP.sends
 rw [gh_sends, hy] at hy'
 have hyy : y' = gh h y := (Option.some.inj hy').symm
 rw [hyy] at hPy
 rw [hC'] at n1
 have hw1 := hs.w1
 have hF : FMs (adA iss) (adB irs) q V D R W mr sr O m ℓ L y.a y.b y.p.air (mstart m L w U) U := by
  rw [z1, z2, z3]
  refine ⟨n1, n5.trans hsh, n6.trans hmm, b1, k6, by rw [n4]; exact hL, hup.2, ?_, hR⟩
  show upTo L (U + w) U = L ∨ upTo L (U + w) U = U + w
  unfold upTo
  by_cases h1 : U + w < L
  ·rw [if_pos h1]
   by_cases h2 : U < U + w
   ·rw [if_pos h2]; exact .inr rfl
   ·omega
  ·rw [if_neg h1]
   by_cases h2 : U < L
   ·rw [if_pos h2]; exact .inl rfl
   ·rw [if_neg h2]; left; omega
 have hmu : muF y.a y.p.air ≤ 8100 := by
  rw [z1, z3]
  unfold muF
  rw [n4, n1.cur, wt_dats n2]
  have hdb := dats_bd n2
  rw [hC'] at hdb
  omega
 obtain ⟨k, z, ms, M, k1, k2, k3, k4, k5, k7, k8, k9, k10, k11, k12, k13⟩ := mflow hJ 8100 t y _ U hPy hF hj hmu (by omega)
 obtain ⟨d1, d2, d3, d4⟩ := k4.done
 have f1 := k4.fs
 have f2 := k4.fr
 rw [d2, d3] at f1
 rw [d4] at f2
 exact ⟨hPy, k, z, ms, k1, k2, k3, k5, d2, k7, by rw [k8, z1, n4], by rw [k9, z1, n7], k4.sh, k4.mm, f1, f2, (fun h => k10 (by rw [z1]; exact h.out)), by rw [k11, z1, now_out], by rw [k12, z2, now_out], (fun h => k13 (by rw [z1]; exact h.out))⟩
end
def ghOf (p : KPa) : KGh := ⟨p.w0, p.w1, p.g0, p.g1, p.s0, p.s1⟩
theorem gh_self {x : KPr} (h : x.p.br = false) : gh (ghOf x.p) x = x := by
 obtain ⟨a, b, p⟩ := x
 obtain ⟨⟩ := p
 simp only at h
 subst h
 rfl
theorem sd_keep (i : Bool) : ∀ (l : List KSeg) (p q : KPa), sdList i p l = some q → ghOf q = ghOf p ∧ q.br = p.br ∧ q.o0 = p.o0 ∧ q.o1 = p.o1
  | [], p, q, h => by
    have e : p = q := by simpa [sdList] using h
    subst e
    exact ⟨rfl, rfl, rfl, rfl⟩
  | g :: l, p, q, h => by
    unfold sdList at h
    split at h
    · obtain ⟨h1, h2, h3, h4⟩ := sd_keep i l _ q h
      cases i with
      | true => rw [stepT] at h1 h2 h3 h4; exact ⟨h1, h2, h3, h4⟩
      | false => rw [stepF] at h1 h2 h3 h4; exact ⟨h1, h2, h3, h4⟩
    · cases h
theorem sends_keep {x y : KPr} (h : sends x = some y) : ghOf y.p = ghOf x.p ∧ y.p.br = x.p.br := by
  unfold sends at h
  cases e1 : sdList true x.p (cOut x.a).2 with
  | none => rw [e1] at h; cases h
  | some p1 =>
    rw [e1] at h
    dsimp only at h
    cases e2 : sdList false p1 (cOut x.b).2 with
    | none => rw [e2] at h; cases h
    | some p2 =>
      rw [e2] at h
      injection h with h
      subst h
      obtain ⟨a1, a2, _⟩ := sd_keep true _ _ _ e1
      obtain ⟨b1, b2, _⟩ := sd_keep false _ _ _ e2
      exact ⟨b1.trans a1, b2.trans a2⟩
theorem come_keep (x : KPr) (g : KSeg) (l : List KSeg) : ghOf (come ⟨x.a, x.b, { x.p with air := l }⟩ g).p = ghOf x.p ∧ (come ⟨x.a, x.b, { x.p with air := l }⟩ g).p.br = x.p.br := by
 unfold come
 split <;> exact ⟨rfl, rfl⟩
theorem qx_keep : ∀ {k : Nat} {x y : KPr}, Qx k x y → ghOf y.p = ghOf x.p ∧ y.p.br = x.p.br
  | 0, x, y, h => by
    obtain ⟨h1, _⟩ := h
    subst h1
    exact ⟨rfl, rfl⟩
  | k + 1, x, y, h => by
    obtain ⟨g, l, z, _, hq, h3⟩ := h
    obtain ⟨_, _, _, _, _, _, _, _, _, hs, _⟩ := hq
    obtain ⟨a1, a2⟩ := qx_keep h3
    obtain ⟨b1, b2⟩ := sends_keep hs
    obtain ⟨c1, c2⟩ := come_keep x g l
    exact ⟨a1.trans (b1.trans c1), a2.trans (b2.trans c2)⟩
section
variable {A B : KAd} {s r : KCn} {q : IQ} {N V D U w E ℓ mr : Int} {R : Option Int} {W : KWd} {sr ow : Bool} {O : OQ}
theorem FR.rest (h : FR A B r N V D R W mr sr O false ow) : ¬ cWaits r := by
 intro hw
 have h1 := h.una
 have h2 := h.cur
 have h3 := h.end_
 rcases hw with hw | ⟨_, _, hw⟩ <;> omega
theorem FR.clk (h : FR A B r N V D R W mr sr O false ow) : (cOut r).1.clock = -1 := by
 have e := out_none h.st0.1 h.rs h.ag h.idle
 rw [e]
 show (cSettle { r with owed := false, again := false, probe := false }).clock = -1
 rw [settle_off (c := { r with owed := false, again := false, probe := false }) (.inr (.inr h.rest))]
theorem FR.tick (h : FR A B r N V D R W mr sr O false ow) (hc : r.clock = -1) (n : Int) : cTick r n = { r with now := r.now + n, clock := -1 } ∧ FR A B (cTick r n) N V D R W mr sr O false ow := by
 have hst := h.st
 have h9 : r.st ≠ 9 := by cases sr <;> simp at hst <;> omega
 have e : cTick r n = { r with now := r.now + n, clock := -1 } := by
  unfold cTick
  dsimp only
  rw [if_neg (fun e => h9 e.1), if_neg (fun e => by have := e.1; rw [hc] at this; exact absurd this (by decide))]
  exact settle_off (c := { r with now := r.now + n }) (.inr (.inr h.rest))
 rw [e]
 exact ⟨rfl, ⟨⟨h.ad.la, h.ad.lp, h.ad.ra, h.ad.rp, h.ad.iss⟩, h.irs, h.st, h.sh, (fun e => by cases e), h.pr, h.oc, h.rs, h.ag, h.ow, h.una, h.cur, h.sent, h.end_, h.v1, h.n1, h.wn, h.ms, h.h⟩⟩
theorem FSl.tick (h : FSl A B s q V U U w E ℓ) (hq : qEnd s.o = U) (hc : s.clock = -1) (n : Int) : cTick s n = { s with now := s.now + n, clock := -1 } ∧ FSl A B (cTick s n) q V U U w E ℓ := by
 have h9 : s.st ≠ 9 := by rcases h.st with ⟨_, e | e⟩ | ⟨_, e | e⟩ <;> omega
 have hr : ¬ cWaits s := by
  intro hw
  have h1 := h.una
  have h2 := h.cur
  rcases hw with hw | ⟨_, _, hw⟩ <;> omega
 have e : cTick s n = { s with now := s.now + n, clock := -1 } := by
  unfold cTick
  dsimp only
  rw [if_neg (fun e => h9 e.1), if_neg (fun e => by have := e.1; rw [hc] at this; exact absurd this (by decide))]
  exact settle_off (c := { s with now := s.now + n }) (.inr (.inr hr))
 rw [e]
 exact ⟨rfl, ⟨⟨h.ad.la, h.ad.lp, h.ad.ra, h.ad.rp, h.ad.iss⟩, h.irs, h.st, h.cl, h.rs, h.ag, h.pr, h.ow, h.ok, h.una, h.cur, h.sent, h.u1, h.end_, h.m, h.wnd, h.wd, h.w1, h.qok, h.qst, h.qnx, h.qov, h.qrd, h.v1⟩⟩
theorem FSl.late (h : FSl A B s q V U U w E ℓ) (hq : U < qEnd s.o) (hE : E = U) (hc : 0 ≤ s.clock) (n : Int) (hv : valZ s.tm.k s.tm.m s.tm.s s.tm.d ≤ s.now + n - s.clock) (hg : s.gone ≠ 8) (hn : 0 ≤ s.now + n) :
  cTick s n = { s with now := s.now + n, gone := s.gone + 1, tm := { s.tm with d := if s.tm.d < 6 then s.tm.d + 1 else 6 }, clock := s.now + n, probe := true } := by
 have h9 : s.st ≠ 9 ∧ s.st ≠ 0 := by rcases h.st with ⟨_, e | e⟩ | ⟨_, e | e⟩ <;> omega
 have h1 := h.una
 have h2 := h.cur
 have h3 := h.u1
 have h4 := h.wnd
 have e : cTick s n = cSettle { s with now := s.now + n, gone := s.gone + 1, tm := { s.tm with d := if s.tm.d < 6 then s.tm.d + 1 else 6 }, clock := s.now + n, probe := true } := by
  unfold cTick
  dsimp only
  rw [if_neg (fun e => h9.1 e.1), if_pos ⟨hc, hv⟩]
  unfold cLate
  dsimp only
  rw [if_neg hg, if_pos (by omega)]
 rw [e]
 unfold cSettle
 rw [if_neg, if_neg]
 ·show ¬ s.now + n < 0
  omega
 ·intro hh
  rcases hh with hh | hh | hh
  ·exact h9.2 hh
  ·exact h9.1 hh
  ·refine hh (.inr ⟨?_, ?_, ?_⟩)
   ·show s.wnd = 0; omega
   ·show 0 < s.o.una; omega
   ·show s.o.cur < qEnd s.o; omega
end
theorem qv_init {E : Nat → Prop} {w W : World} {l : List Res} {A : Res} (h : MemX E w W (l ++ [A])) : MemX E w W l := by
 have := h.take_ l.length
 rwa [List.take_left] at this
set_option maxRecDepth 100000 in
set_option maxHeartbeats 8000000 in
theorem meet_all (iss irs a b : Int) (hi : 0 ≤ iss) (hi' : iss ≤ 4294967295) (hj : 0 ≤ irs) (hj' : irs ≤ 4294967295) (ha : -9223372036854775808 ≤ a) (ha' : a ≤ 9223372036854775807) (hb : -9223372036854775808 ≤ b) (hb' : b ≤ 9223372036854775807) :
  ∃ y : KPr, gh gh0 y = y ∧ PI iss irs 0 2 (gh gh0 y) ∧ y.a = cE 1 40000 2 80 iss irs (8 + a % 993) (cMss (8 + a % 993) (8 + b % 993)) 0 0 0 false ∧ y.b = cE 2 80 1 40000 irs iss (8 + b % 993) (cMss (8 + b % 993) (8 + a % 993)) 1 1 0 false ∧ y.p.air = [] ∧
   ∀ w, Calls Try.prog 22 #[.int .u32 iss, .int .u32 irs, .agg #[.int .i64 a, .int .i64 b]] w fun e w' => ∃ gp ga gia gwa ka gb gib gwb kb va, e = .returned (.pointer (some ⟨gp, 0, none⟩)) ∧ Mem w w' (prM (⟨gp, ga, gia, gwa, ka, gb, gib, gwb, kb, va⟩ : KPl) y []) ∧ KPl.ok (⟨gp, ga, gia, gwa, ka, gb, gib, gwb, kb, va⟩ : KPl) y := by
 obtain ⟨y0, y, s0, P0, sa, sb, q2, P2, ya, yb, yair⟩ := meet_plain (iss := iss) (irs := irs) (ma := 8 + a % 993) (mb := 8 + b % 993) ⟨hi, hi'⟩ ⟨hj, hj'⟩ (by omega) (by omega)
 have hgy : gh gh0 y = y := by
  obtain ⟨k1, k2⟩ := qx_keep q2
  obtain ⟨k3, k4⟩ := sends_keep s0
  have k5 : ghOf y.p = gh0 := (k1.trans k3).trans rfl
  rw [← k5]
  exact gh_self ((k2.trans k4).trans rfl)
 refine ⟨y, hgy, P2, ya, yb, yair, fun w => ?_⟩
 have hM := Mem.nil w
 have hPA := fun W => paired_any iss irs a b W hi hi' hj hj' ha ha' hb hb'
 obtain ⟨x0, hx0⟩ : ∃ z, z = pr0 iss irs (8 + a % 993) (8 + b % 993) := ⟨_, rfl⟩
 rw [← hx0] at hPA s0 P0 sa sb
 have HPA := Lib.hid hPA
 have hl0 := P0.len
 have hs0 : SOk x0 y0 := ⟨0, by decide, P0.ciA, P0.ciB, P0.ok, by omega, s0, sa, sb⟩
 have HS := Lib.hid hs0
 have HQ := Lib.hid q2
 have HST := Lib.hid (show y.a.st = 3 ∧ y.b.st = 3 from ⟨by rw [ya]; rfl, by rw [yb]; rfl⟩)
 clear hPA hx0 s0 P0 sa sb q2 P2 ya yb yair hgy hi hi' hj hj' ha ha' hb hb' hs0 hl0
 go_enter Try.func22, Try.ntmps22
 go_upto_region 1 with (first | go_skip | ((with_reducible refine at_box_ ?_); refine wpList_box_mem rfl _ _ rfl [.int .i64 a, .int .i64 b] rfl hM ?_; clear hM; intro gb W hM; first | (simp only [List.nil_append] at hM) | (simp only [List.cons_append, List.nil_append] at hM)))
 obtain ⟨gm, hgm⟩ : ∃ x, x = gb := ⟨_, rfl⟩
 subst hgm
 go_upto_region 2 with (first | go_skip | ((with_reducible refine at_load_ (T := 43) ?_); refine wpList_load_mem rfl 43 _ rfl 0 _ _ [.int .i64 a, .int .i64 b] hM rfl rfl _ Try.underlying43 rfl (by kernel_rfl) ?_) | (go_at_call 20; refine (HPA.out _).mono ?_; rintro e W ⟨⟨gp, ga, gia, gwa, ka, gb, gib, gwb, kb, va⟩, rfl, hN, hok⟩; have HOK := Lib.hid hok; clear hok; replace hM := hM.new_ hN; rw [prM_app] at hM; clear hN; dsimp only))
 go_upto_region 4 with (first | go_skip | (go_at_call 21; refine (sends_p gp ga gia gwa ka gb gib gwb kb va _ _ _ HS.out hM HOK.out).mono ?_; clear hM HOK; rintro e W ⟨rfl, ka1, kb1, va1, hM, hok⟩; have HOK := Lib.hid hok; clear hok; dsimp only) | (go_at_call 24; refine (quiet_p gp ga gia gwa ka1 gb gib gwb kb1 va1 _ _ _ 2 (by decide) HQ.out hM HOK.out).mono ?_; clear hM HOK; rintro e W ⟨rfl, gia2, gwa2, ka2, gib2, gwb2, kb2, va2, hM, hok⟩; have HOK := Lib.hid hok; clear hok; dsimp only))
 have HSA := Lib.hid (fun (W : World) (h : Mem w W (prM (⟨gp, ga, gia2, gwa2, ka2, gb, gib2, gwb2, kb2, va2⟩ : KPl) y [atR gm 43 [.int .i64 a, .int .i64 b]])) => (by have h2 := st_p0 gp ga gia2 gwa2 ka2 gb gib2 gwb2 kb2 va2 y _ h; rw [HST.out.1] at h2; exact h2 : Calls Try.prog 16 #[.pointer (some ⟨ga, 0, none⟩)] W fun e W' => e = .returned (.int .i64 3) ∧ W = W'))
 have HSB := Lib.hid (fun (W : World) (h : Mem w W (prM (⟨gp, ga, gia2, gwa2, ka2, gb, gib2, gwb2, kb2, va2⟩ : KPl) y [atR gm 43 [.int .i64 a, .int .i64 b]])) => (by have h2 := st_p1 gp ga gia2 gwa2 ka2 gb gib2 gwb2 kb2 va2 y _ h; rw [HST.out.2] at h2; exact h2 : Calls Try.prog 16 #[.pointer (some ⟨gb, 0, none⟩)] W fun e W' => e = .returned (.int .i64 3) ∧ W = W'))
 clear HPA HS HQ HST
 go_wp2_with (first | go_skip | ((with_reducible refine at_load_ ?_); refine at_wanted_ (by rfl) ?_; first | (refine lM 0 hM rfl rfl rfl rfl ?_)) | (go_at_call 16; first | ((with_reducible refine (HSA.out _ hM).mono ?_); rintro e W ⟨rfl, rfl⟩; dsimp only) | ((with_reducible refine (HSB.out _ hM).mono ?_); rintro e W ⟨rfl, rfl⟩; dsimp only)))
 refine bodyPost_ret (v := .pointer (some ⟨gp, 0, none⟩)) (by simp [results, Try.results22, go_sem]) rfl ?_
 rw [← prM_app] at hM
 exact ⟨gp, ga, gia2, gwa2, ka2, gb, gib2, gwb2, kb2, va2, rfl, qv_init hM, HOK.out⟩
end Go.Proofs.Ytfpifahkpkjfgaa
