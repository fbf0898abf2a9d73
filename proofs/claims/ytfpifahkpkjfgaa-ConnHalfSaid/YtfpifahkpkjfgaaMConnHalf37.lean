/- What ConnHalf needs, a part: CnSh, CnSi, CnSj, CnQx, CnBo, CnBl. -/
import Derived.Test.YtfpifahkpkjfgaaMZ
import Derived.Test.YtfpifahkpkjfgaaMConnHalf34
import Derived.Test.YtfpifahkpkjfgaaMConnHalf35
import Derived.Test.YtfpifahkpkjfgaaMConnHalf36
/- conn: the time of a connection, and a step of a script: what holds of two goes on to hold (plain). -/
namespace Go.Proofs.Ytfpifahkpkjfgaa
open Go.RowKit Go.Lib
set_option linter.unusedVariables false
set_option linter.unusedSimpArgs false
section
variable {A B : KAd} {a b c : KCn} {T TS U T0 T1 G0 G1 S : ByteArray} {s td fS s0 s1 t0 t1 : Bool} {E E0 E1 e0 e1 siss t t' : Int} {n N : Nat} {g : KSeg} {air air' : List KSeg}
theorem now_settle (c : KCn) : (cSettle c).now = c.now := by unfold cSettle; split <;> (try split) <;> rfl
theorem now_same (c : KCn) (g : KSeg) : (cSame c g).now = c.now := by unfold cSame; split <;> rfl
theorem now_takes (c : KCn) (g : KSeg) (p : Int) : (cTakes c g p).now = c.now := by
 unfold cTakes cTakes1
 show (if _ then _ else _ : KCn).now = _
 split
 ·dsimp only
  split
  ·split
   ·rfl
   ·split <;> rfl
  ·rfl
 ·split <;> rfl
theorem now_acks2 (c : KCn) (g : KSeg) (p k : Int) : (cAcks2 c g p k).1.now = c.now := by
 by_cases hs : c.o.sent < k
 ·unfold cAcks2
  rw [if_pos hs]
 ·obtain ⟨c1, h1⟩ : ∃ z : KCn, z = if c.o.una < k then cAckd c k else if k = c.o.una ∧ sgLen g = 0 ∧ c.o.una < c.o.cur ∧ g.win = c.wnd then cSame c g else c := ⟨_, rfl⟩
  obtain ⟨c2, h2⟩ : ∃ z : KCn, z = if c.o.una < k ∨ (k = c.o.una ∧ (c.wat < p ∨ (p = c.wat ∧ c.wak ≤ k))) then { c1 with wnd := g.win, wat := p, wak := k } else c1 := ⟨_, rfl⟩
  rw [acks2_of hs h1 h2]
  have e1 : c1.now = c.now := by
   rw [h1]
   split
   ·rfl
   ·split
    ·exact now_same c g
    ·rfl
  have e2 : c2.now = c.now := by
   rw [h2]
   split <;> exact e1
  rw [← e2]
  split
  ·split
   ·rfl
   ·split
    ·rfl
    ·split <;> rfl
  ·rfl
theorem now_acks (c : KCn) (g : KSeg) (p : Int) : (cAcks c g p).1.now = c.now := by
 unfold cAcks
 split
 ·split
  ·rfl
  ·exact now_acks2 _ g p _
 ·exact now_acks2 c g p _
theorem now_next (c : KCn) (g : KSeg) : (cNext c g).now = c.now := by
 unfold cNext
 split
 ·split <;> rfl
 ·split
  ·rfl
  ·split
   ·rfl
   ·split
    ·split
     ·rw [now_takes, now_acks]
     ·exact now_acks c g _
    ·rfl
theorem now_in (c : KCn) (g : KSeg) : (cIn c g).now = c.now := by
 unfold cIn
 split
 ·rfl
 ·rw [now_settle]
  split
  ·unfold cFirst
   split
   ·split <;> rfl
   ·split
    ·split <;> rfl
    ·split
     ·split <;> rfl
     ·rfl
  ·exact now_next c g
theorem now_write (c : KCn) (S : ByteArray) : (cWrite c S).1.now = c.now := by
 unfold cWrite
 split
 ·rfl
 ·split
  ·rfl
  ·exact now_settle _
theorem now_close (c : KCn) : (cClose c).1.now = c.now := by
 unfold cClose
 split
 ·rfl
 ·split
  ·rfl
  ·split
   ·exact now_settle (cClosed c 0)
   ·exact now_settle _
theorem now_read (c : KCn) (most : Int) : (cRead c most).1.now = c.now := by
 unfold cRead
 split
 ·rfl
 ·split
  ·rfl
  ·unfold cReadT
   split
   ·rfl
   ·split <;> rfl
theorem now_loop (lim : Int) : ∀ (f : Nat) (c : KCn) (l : List KSeg), (cLoop f c lim l).1.now = c.now
  | 0, c, l => rfl
  | f + 1, c, l => by
    unfold cLoop
    split
    · rw [now_loop lim f]
      unfold cStep
      split <;> rfl
    · rfl
theorem now_out (c : KCn) : (cOut c).1.now = c.now := by
 unfold cOut
 dsimp only
 split
 ·rfl
 ·unfold cTail
  show (cSettle _).now = _
  rw [now_settle]
  exact now_loop _ _ _ _
theorem read_ok {q : IQ} (ok : IqOk q) (most : Int) : IqOk { q with rd := q.rd + readN q most } := by
 have hr := ok.rd1
 have hb := end_bd q ok
 have hm := readN_bd ok most
 refine ⟨by show 1 ≤ q.rd + (readN q most : Int); omega, hm, ?_, ok.nxm, ok.fin1, ok.finm, ok.rok⟩
 show endZ q ≤ q.rd + readN q most + 2048
 omega
theorem CI.read (h : CI c t) (most : Int) : CI (cRead c most).1 (t + 1) := by
 have hm := h.mono (show t ≤ t + 1 by omega)
 unfold cRead
 split
 ·rename_i hh
  obtain ⟨x, hx⟩ := Option.ne_none_iff_exists'.1 hh.1
  obtain ⟨q, d⟩ := x
  have hq : cQ c = q := by unfold cQ; rw [hx]
  obtain ⟨k1, k2, k3⟩ := h.hs q d hx
  have hb := readN_bd k1 most
  have he := end_bd q k1
  have hn : ∀ f : IQ × KWd → IQ × KWd, c.h.map f = none → c.h = none := fun f e => by rw [hx] at e; cases e
  exact { hm with
   s1 := fun e => by
    have := h.s1 e
    rw [hx] at this; cases this
   s2 := fun _ _ e => by rw [hn _ e] at hx; cases hx
   hn := fun e => h.hn (hn _ e)
   hs := fun q' d' e => by
    have e4 : c.h.map (fun x => (({ x.1 with rd := x.1.rd + readN x.1 most } : IQ), x.2)) = some (q', d') := e
    rw [hx] at e4
    injection e4 with e5
    injection e5 with e6 e7
    rw [← e6, ← e7]
    exact ⟨read_ok k1 most, k2, by show q.rd + (readN q most : Int) ≤ _; omega⟩ }
 ·split
  ·exact hm
  ·unfold cReadT
   split
   ·exact hm
   ·split <;> exact hm
theorem ba_grow {k : Nat} (h : k ≤ T.size) : (T ++ U).extract 0 k = T.extract 0 k := by
 apply str_ext
 rw [ByteArray.data_extract, ByteArray.data_extract, ByteArray.data_append, Array.toList_extract, Array.toList_extract, Array.toList_append, List.extract_eq_take_drop, List.extract_eq_take_drop, List.drop_zero, List.drop_zero, Nat.sub_zero]
 have : k ≤ T.data.toList.length := by simpa using h
 rw [List.take_append_of_le_length this]
theorem ba_more {n m : Nat} (h : G0 = T.extract 0 n) : G0 ++ T.extract n (n + m) = T.extract 0 (n + m) := by
 rw [h, ByteArray.extract_append_extract]
 simp
theorem PH.time (h : PH A B a b T0 T1 G0 G1 s0 s1 t0 t1 e0 e1 air E0 E1 N t) (ht : t ≤ t') : PH A B a b T0 T1 G0 G1 s0 s1 t0 t1 e0 e1 air E0 E1 N t' :=
 { h with ca := h.ca.mono ht, cb := h.cb.mono ht }
theorem PH.few (h : PH A B a b T0 T1 G0 G1 s0 s1 t0 t1 e0 e1 air E0 E1 N t) (ha : ∀ g ∈ air', g ∈ air) : PH A B a b T0 T1 G0 G1 s0 s1 t0 t1 e0 e1 air' E0 E1 N t :=
 { h with aok := fun g hg => h.aok g (ha g hg), air := fun g hg => h.air g (ha g hg) }
/-- one writes -/
theorem PH.write (h : PH A B a b T0 T1 G0 G1 s0 s1 t0 t1 e0 e1 air E0 E1 N t) (S : ByteArray) (hN : N + S.size ≤ 1048576) :
    PH A B (cWrite a S).1 b (T0 ++ S.extract 0 (cWrite a S).2.1.toNat) T1 G0 G1 s0 s1 t0 t1 e0 e1 air E0 E1 (N + S.size) (t + 1) := by
  obtain ⟨k1, k2, k3, k4, k5⟩ := h.xa.write h.ca S
  have hz : (T0 ++ S.extract 0 (cWrite a S).2.1.toNat).size ≤ T0.size + S.size := by
    rw [ByteArray.size_append, ByteArray.size_extract]; omega
  have hz2 : T0.size ≤ (T0 ++ S.extract 0 (cWrite a S).2.1.toNat).size := by rw [ByteArray.size_append]; omega
  have hs := h.sz
  have hn1 := h.n1
  have h' := h.time (show t ≤ t + 1 by omega)
  have hU : s0 = true → T0 ++ S.extract 0 (cWrite a S).2.1.toNat = T0 := fun e => by
    rw [k5 e]; exact ba_app0 _ _
  generalize hU' : T0 ++ S.extract 0 (cWrite a S).2.1.toNat = T0' at *
  have hg1 : G1 = T0'.extract 0 G1.size := by
    rw [← hU', ba_grow hn1]; exact h.g1
  have hx : Cx B b T1 s1 t1 E1 T0' s0 G1.size A.iss ∧ ∀ g, AirS B T0 s0 A.iss t1 E1 g → AirS B T0' s0 A.iss t1 E1 g := by
    cases hs0 : s0 with
    | true =>
      have := h.xb
      rw [hs0] at this
      rw [hU hs0]
      exact ⟨this, fun g hg => hg⟩
    | false =>
      have := h.xb
      rw [hs0] at this
      rw [← hU']
      exact ⟨this.peer, fun g hg => hg.grow⟩
  exact { h' with ca := (h.ca.write S).1, xa := k1, xb := hx.1, g1 := hg1, n1 := by omega, air := fun g hg => (h.air g hg).imp id (hx.2 g), sz := by omega, big := hN }
/-- one has nothing more to say -/
theorem PH.close (h : PH A B a b T0 T1 G0 G1 s0 s1 t0 t1 e0 e1 air E0 E1 N t) :
    PH A B (cClose a).1 b T0 T1 G0 G1 (s0 || decide ((cClose a).2 = 0)) s1 t0 t1 e0 e1 air E0 E1 N t := by
  have hx : Cx B b T1 s1 t1 E1 T0 (s0 || decide ((cClose a).2 = 0)) G1.size A.iss ∧ ∀ g, AirS B T0 s0 A.iss t1 E1 g → AirS B T0 (s0 || decide ((cClose a).2 = 0)) A.iss t1 E1 g := by
    cases hs0 : (s0 || decide ((cClose a).2 = 0)) with
    | true => exact ⟨h.xb.peerT, fun g hg => hg.told⟩
    | false =>
      have : s0 = false := by cases s0; rfl; cases hs0
      have h2 := h.xb
      rw [this] at h2 ⊢
      exact ⟨h2, fun g hg => hg⟩
  exact { h with ca := h.ca.close.1, xa := h.xa.close, xb := hx.1, air := fun g hg => (h.air g hg).imp id (hx.2 g) }
/-- one reads -/
theorem PH.read (h : PH A B a b T0 T1 G0 G1 s0 s1 t0 t1 e0 e1 air E0 E1 N t) (most : Int) :
  PH A B (cRead a most).1 b T0 T1 (G0 ++ (cRead a most).2.1) G1 s0 s1 t0 t1 e0 e1 air E0 E1 N (t + 1) ∧ ((cRead a most).2.2.2 ≠ 0 → (cRead a most).2.1 = ⟨#[]⟩) ∧
   ((cRead a most).2.2.1 = true → (cRead a most).1.st = 0 ∨ (s1 = true ∧ G0 ++ (cRead a most).2.1 = T1)) := by
 obtain ⟨m, k1, k2, k3, k4, k5, k6⟩ := h.xa.read most h.n0
 have h' := h.time (show t ≤ t + 1 by omega)
 have hg : G0 ++ (cRead a most).2.1 = T1.extract 0 (G0.size + m) := by rw [k3]; exact ba_more h.g0
 have hz : (G0 ++ (cRead a most).2.1).size = G0.size + m := by rw [hg, ByteArray.size_extract]; omega
 have hx0 : m = 0 → (cRead a most).2.1 = ⟨#[]⟩ := fun e => ByteArray.size_eq_zero_iff.1 (by rw [k3, ByteArray.size_extract]; omega)
 refine ⟨{ h' with ca := h.ca.read most, xa := by rw [hz]; exact k1, g0 := by rw [hz]; exact hg, n0 := by rw [hz]; exact k2 }, fun e => hx0 (k4 e), fun e => ?_⟩
 obtain ⟨e1, e2⟩ := k5 e
 rcases e2 with e2 | ⟨e2, e3⟩
 ·exact .inl e2
 ·refine .inr ⟨e2, ?_⟩
  rw [hg, e1, Nat.add_zero, e3]
  exact ByteArray.extract_zero_size
/-- a segment of the air comes -/
theorem PH.come (h : PH A B a b T0 T1 G0 G1 s0 s1 t0 t1 e0 e1 air E0 E1 N t) (ht : t ≤ 140737488355320) (hg : g ∈ air) (hto : g.ta = A.la ∧ g.tp = A.lp) (hne : ¬ (B.la = A.la ∧ B.lp = A.lp)) :
  PH A B (cIn a g) b T0 T1 G0 G1 s0 s1 t0 t1 e0 e1 air E0 E1 N (t + 1) := by
 have h' := h.time (show t ≤ t + 1 by omega)
 have hs := h.sz
 have hb := h.big
 have hA : AirS A T1 s1 B.iss t0 E0 g := by
  rcases h.air g hg with h1 | h1
  ·exact h1
  ·obtain ⟨⟨_, _, a3, a4⟩, _⟩ := h1
   exact absurd ⟨a3.symm.trans hto.1, a4.symm.trans hto.2⟩ hne
 exact { h' with ca := (h.ca.in_ ht g (h.aok g hg)).1, xa := h.xa.in_ h.ca (by omega) (by omega) h.ib hA }
end
end Go.Proofs.Ytfpifahkpkjfgaa
/- conn: what always holds of a pair that a script moves (plain). -/
namespace Go.Proofs.Ytfpifahkpkjfgaa
open Go.RowKit Go.Lib
set_option linter.unusedVariables false
set_option linter.unusedSimpArgs false
section
variable {iss irs t E0 E1 : Int} {a b : KCn} {p q : KPa} {x y : KPr} {N : Nat} {g : KSeg}
def PX (iss irs : Int) (a b : KCn) (p : KPa) (E0 E1 : Int) (N : Nat) (t : Int) : Prop :=
 PH ⟨1, 40000, 2, 80, iss⟩ ⟨2, 80, 1, 40000, irs⟩ a b p.w0 p.w1 p.g0 p.g1 p.s0 p.s1 p.t0 p.t1 p.e0 p.e1 p.air E0 E1 N t
/-- the same but for what is in the air and what has been told -/
structure Sp (p q : KPa) : Prop where
 w0 : q.w0 = p.w0
 w1 : q.w1 = p.w1
 g0 : q.g0 = p.g0
 g1 : q.g1 = p.g1
 s0 : q.s0 = p.s0
 s1 : q.s1 = p.s1
 br : q.br = p.br
theorem Sp.trans {r : KPa} (h : Sp p q) (k : Sp q r) : Sp p r := ⟨k.w0.trans h.w0, k.w1.trans h.w1, k.g0.trans h.g0, k.g1.trans h.g1, k.s0.trans h.s0, k.s1.trans h.s1, k.br.trans h.br⟩
def tellT (p : KPa) (g : KSeg) : Prop := g.has = true ∧ g.rst = false ∧ (p.t1 = false ∨ lessB p.e1 (sdEdge g) = true)
def tellF (p : KPa) (g : KSeg) : Prop := g.has = true ∧ g.rst = false ∧ (p.t0 = false ∨ lessB p.e0 (sdEdge g) = true)
instance : Decidable (tellT p g) := by unfold tellT; infer_instance
instance : Decidable (tellF p g) := by unfold tellF; infer_instance
theorem stepT (p : KPa) (g : KSeg) : sdStep true p g = { p with e1 := if tellT p g then sdEdge g else p.e1, t1 := if tellT p g then true else p.t1, air := airP p.air g } := by
 unfold sdStep sdAir airP
 rw [sdTell_air, sdTell_t]
 by_cases h : tellT p g
 ·have h' := h
  unfold tellT at h'
  rw [if_pos h', if_pos h, if_pos h]
  split <;> rfl
 ·have h' := h
  unfold tellT at h'
  rw [if_neg h', if_neg h, if_neg h]
  split <;> rfl
theorem stepF (p : KPa) (g : KSeg) : sdStep false p g = { p with e0 := if tellF p g then sdEdge g else p.e0, t0 := if tellF p g then true else p.t0, air := airP p.air g } := by
 unfold sdStep sdAir airP
 rw [sdTell_air, sdTell_f]
 by_cases h : tellF p g
 ·have h' := h
  unfold tellF at h'
  rw [if_pos h', if_pos h, if_pos h]
  split <;> rfl
 ·have h' := h
  unfold tellF at h'
  rw [if_neg h', if_neg h, if_neg h]
  split <;> rfl
theorem px_emitT (h : PX iss irs a b p E0 E1 N t) (hg : SegOut p.w0 p.s0 a (oL a) g) : sdOk true p g = true ∧ Sp p (sdStep true p g) ∧ ∃ E', PX iss irs a b (sdStep true p g) E0 E' N t := by
 have h0 : PH ⟨1, 40000, 2, 80, iss⟩ ⟨2, 80, 1, 40000, irs⟩ a b p.w0 p.w1 p.g0 p.g1 p.s0 p.s1 p.t0 p.t1 p.e0 p.e1 p.air E0 E1 N t := h
 have k1 := seg_chk h0.xa h0.ca h0.tt hg
 have k2 := seg_in h0.xa h0.ca h0.e0 hg
 obtain ⟨⟨a1, a2, a3, a4⟩, _⟩ := id hg
 have b1 := a1.trans h0.xa.ad.la
 have b2 := a2.trans h0.xa.ad.lp
 have b3 := a3.trans h0.xa.ad.ra
 have b4 := a4.trans h0.xa.ad.rp
 refine ⟨?_, ?_, ?_⟩
 ·show (decide (g.fa = 1 ∧ g.fp = 40000) && (decide (g.ta = 2 ∧ g.tp = 80) && decide (tcChk g = 0)) && !(p.t0 && (decide (0 < (g.b.size : Int)) && lessB (u32 (p.e0 + 1)) (u32 (g.seq + u32 g.b.size))))) = true
  rw [k2, decide_eq_true (show g.fa = 1 ∧ g.fp = 40000 from ⟨b1, b2⟩), decide_eq_true (show g.ta = 2 ∧ g.tp = 80 from ⟨b3, b4⟩), decide_eq_true k1]; rfl
 ·rw [stepT]; exact ⟨rfl, rfl, rfl, rfl, rfl, rfl, rfl⟩
 ·rw [stepT]; exact h0.emit hg
theorem px_emitF (h : PX iss irs a b p E0 E1 N t) (hg : SegOut p.w1 p.s1 b (oL b) g) : sdOk false p g = true ∧ Sp p (sdStep false p g) ∧ ∃ E', PX iss irs a b (sdStep false p g) E' E1 N t := by
 have h1 : PH ⟨1, 40000, 2, 80, iss⟩ ⟨2, 80, 1, 40000, irs⟩ a b p.w0 p.w1 p.g0 p.g1 p.s0 p.s1 p.t0 p.t1 p.e0 p.e1 p.air E0 E1 N t := h
 have h0 := h1.symm
 have k1 := seg_chk h0.xa h0.ca h0.tt hg
 have k2 := seg_in h0.xa h0.ca h0.e0 hg
 obtain ⟨⟨a1, a2, a3, a4⟩, _⟩ := id hg
 have b1 := a1.trans h0.xa.ad.la
 have b2 := a2.trans h0.xa.ad.lp
 have b3 := a3.trans h0.xa.ad.ra
 have b4 := a4.trans h0.xa.ad.rp
 refine ⟨?_, ?_, ?_⟩
 ·show (decide (g.fa = 2 ∧ g.fp = 80) && (decide (g.ta = 1 ∧ g.tp = 40000) && decide (tcChk g = 0)) && !(p.t1 && (decide (0 < (g.b.size : Int)) && lessB (u32 (p.e1 + 1)) (u32 (g.seq + u32 g.b.size))))) = true
  rw [k2, decide_eq_true (show g.fa = 2 ∧ g.fp = 80 from ⟨b1, b2⟩), decide_eq_true (show g.ta = 1 ∧ g.tp = 40000 from ⟨b3, b4⟩), decide_eq_true k1]; rfl
 ·rw [stepF]; exact ⟨rfl, rfl, rfl, rfl, rfl, rfl, rfl⟩
 ·rw [stepF]
  obtain ⟨E', h2⟩ := h0.emit hg
  exact ⟨E', h2.symm⟩
theorem px_listT : ∀ (l : List KSeg) (p : KPa) (E1 : Int), PX iss irs a b p E0 E1 N t → (∀ g ∈ l, SegOut p.w0 p.s0 a (oL a) g) → ∃ q E', sdList true p l = some q ∧ PX iss irs a b q E0 E' N t ∧ Sp p q
  | [], p, E1, h, hl => ⟨p, E1, rfl, h, ⟨rfl, rfl, rfl, rfl, rfl, rfl, rfl⟩⟩
  | g :: l, p, E1, h, hl => by
    obtain ⟨k1, k2, E', k3⟩ := px_emitT h (hl g (List.mem_cons_self ..))
    obtain ⟨q, E2, e1, e2, e3⟩ := px_listT l _ E' k3 (fun x hx => by rw [k2.w0, k2.s0]; exact hl x (List.mem_cons_of_mem _ hx))
    refine ⟨q, E2, ?_, e2, k2.trans e3⟩
    unfold sdList
    rw [if_pos k1]; exact e1
theorem px_listF : ∀ (l : List KSeg) (p : KPa) (E0 : Int), PX iss irs a b p E0 E1 N t → (∀ g ∈ l, SegOut p.w1 p.s1 b (oL b) g) → ∃ q E', sdList false p l = some q ∧ PX iss irs a b q E' E1 N t ∧ Sp p q
  | [], p, E0, h, hl => ⟨p, E0, rfl, h, ⟨rfl, rfl, rfl, rfl, rfl, rfl, rfl⟩⟩
  | g :: l, p, E0, h, hl => by
    obtain ⟨k1, k2, E', k3⟩ := px_emitF h (hl g (List.mem_cons_self ..))
    obtain ⟨q, E2, e1, e2, e3⟩ := px_listF l _ E' k3 (fun x hx => by rw [k2.w1, k2.s1]; exact hl x (List.mem_cons_of_mem _ hx))
    refine ⟨q, E2, ?_, e2, k2.trans e3⟩
    unfold sdList
    rw [if_pos k1]; exact e1
/-- what always holds of a pair -/
structure PI (iss irs : Int) (N : Nat) (t : Int) (x : KPr) : Prop where
 h : ∃ E0 E1, PX iss irs x.a x.b x.p E0 E1 N t
 ok : POk x.p
 na : x.a.now ≤ 4 * t
 nb : x.b.now ≤ 4 * t
 len : (x.p.air.length : Int) ≤ 200 + t
 br : x.p.br = false
 t0 : 0 ≤ t
theorem PI.sends (h : PI iss irs N t x) : ∃ y, Go.Proofs.Ytfpifahkpkjfgaa.sends x = some y ∧ PI iss irs N t y ∧ (∀ g ∈ (cOut x.a).2, SegOk g) ∧ (∀ g ∈ (cOut x.b).2, SegOk g) := by
 obtain ⟨E0, E1, hx⟩ := h.h
 have hx0 : PH ⟨1, 40000, 2, 80, iss⟩ ⟨2, 80, 1, 40000, irs⟩ x.a x.b x.p.w0 x.p.w1 x.p.g0 x.p.g1 x.p.s0 x.p.s1 x.p.t0 x.p.t1 x.p.e0 x.p.e1 x.p.air E0 E1 N t := hx
 have o1 := (out_segs hx0.ca hx0.xa.hd).1
 have o2 := (out_segs hx0.cb hx0.xb.hd).1
 obtain ⟨q1, E1', k1, k2, k3⟩ := px_listT (cOut x.a).2 x.p E1 hx o1
 obtain ⟨q2, E0', k4, k5, k6⟩ := px_listF (cOut x.b).2 q1 E0 k2 (fun g hg => by rw [k3.w1, k3.s1]; exact o2 g hg)
 have hk5 : PH ⟨1, 40000, 2, 80, iss⟩ ⟨2, 80, 1, 40000, irs⟩ x.a x.b q2.w0 q2.w1 q2.g0 q2.g1 q2.s0 q2.s1 q2.t0 q2.t1 q2.e0 q2.e1 q2.air E0' E1' N t := k5
 have hlen := h.len
 have ht0 := h.t0
 obtain ⟨n, hn⟩ : ∃ n : Nat, (n : Int) = 200 + t := ⟨(200 + t).toNat, by omega⟩
 obtain ⟨b1, b2⟩ := sdList_bd true n (by omega) _ _ _ k1 h.ok (by omega)
 obtain ⟨b3, b4⟩ := sdList_bd false n (by omega) _ _ _ k4 b1 b2
 refine ⟨⟨(cOut x.a).1, (cOut x.b).1, q2⟩, ?_, ⟨⟨E0', E1', hk5.outA.symm.outA.symm⟩, b3, ?_, ?_, ?_, ?_, ht0⟩, fun g hg => seg_ok hx0.xa hx0.ca hx0.tt (o1 g hg), fun g hg => seg_ok hx0.xb hx0.cb hx0.tt.symm (o2 g hg)⟩
 ·unfold Go.Proofs.Ytfpifahkpkjfgaa.sends
  rw [k1]
  show (match sdList false q1 (cOut x.b).2 with | none => none | some p2 => some (⟨(cOut x.a).1, (cOut x.b).1, p2⟩ : KPr)) = _
  rw [k4]
 ·show (cOut x.a).1.now ≤ _
  rw [now_out]; exact h.na
 ·show (cOut x.b).1.now ≤ _
  rw [now_out]; exact h.nb
 ·show (q2.air.length : Int) ≤ _
  omega
 ·show q2.br = false
  rw [k6.br, k3.br]; exact h.br
theorem PI.time {t' : Int} (h : PI iss irs N t x) (ht : t ≤ t') : PI iss irs N t' x := by
 obtain ⟨E0, E1, hx⟩ := h.h
 exact ⟨⟨E0, E1, PH.time hx ht⟩, h.ok, by have := h.na; omega, by have := h.nb; omega, by have := h.len; omega, h.br, by have := h.t0; omega⟩
theorem PI.few {l : List KSeg} (h : PI iss irs N t x) (hl : ∀ g ∈ l, g ∈ x.p.air) (hn : (l.length : Int) ≤ 200 + t) : PI iss irs N t ⟨x.a, x.b, { x.p with air := l }⟩ := by
 obtain ⟨E0, E1, hx⟩ := h.h
 exact ⟨⟨E0, E1, PH.few hx hl⟩, ⟨h.ok.e0, h.ok.e1⟩, h.na, h.nb, hn, h.br, h.t0⟩
theorem PI.write0 (h : PI iss irs N t x) (S : ByteArray) (hN : N + S.size ≤ 1048576) : PI iss irs (N + S.size) (t + 1) ⟨(cWrite x.a S).1, x.b, { x.p with w0 := x.p.w0 ++ S.extract 0 (cWrite x.a S).2.1.toNat }⟩ := by
 obtain ⟨E0, E1, hx⟩ := h.h
 exact ⟨⟨E0, E1, PH.write hx S hN⟩, ⟨h.ok.e0, h.ok.e1⟩, by have := h.na; show (cWrite x.a S).1.now ≤ _; rw [now_write]; omega, by have := h.nb; show x.b.now ≤ _; omega, by have := h.len; show (x.p.air.length : Int) ≤ _; omega, h.br, by have := h.t0; omega⟩
theorem PI.write1 (h : PI iss irs N t x) (S : ByteArray) (hN : N + S.size ≤ 1048576) : PI iss irs (N + S.size) (t + 1) ⟨x.a, (cWrite x.b S).1, { x.p with w1 := x.p.w1 ++ S.extract 0 (cWrite x.b S).2.1.toNat }⟩ := by
 obtain ⟨E0, E1, hx⟩ := h.h
 exact ⟨⟨E0, E1, (PH.write (PH.symm hx) S hN).symm⟩, ⟨h.ok.e0, h.ok.e1⟩, by have := h.na; show x.a.now ≤ _; omega, by have := h.nb; show (cWrite x.b S).1.now ≤ _; rw [now_write]; omega, by have := h.len; show (x.p.air.length : Int) ≤ _; omega, h.br, by have := h.t0; omega⟩
theorem PI.close0 (h : PI iss irs N t x) : PI iss irs N t ⟨(cClose x.a).1, x.b, { x.p with s0 := x.p.s0 || decide ((cClose x.a).2 = 0) }⟩ := by
 obtain ⟨E0, E1, hx⟩ := h.h
 exact ⟨⟨E0, E1, PH.close hx⟩, ⟨h.ok.e0, h.ok.e1⟩, by show (cClose x.a).1.now ≤ _; rw [now_close]; exact h.na, h.nb, h.len, h.br, h.t0⟩
theorem PI.close1 (h : PI iss irs N t x) : PI iss irs N t ⟨x.a, (cClose x.b).1, { x.p with s1 := x.p.s1 || decide ((cClose x.b).2 = 0) }⟩ := by
 obtain ⟨E0, E1, hx⟩ := h.h
 exact ⟨⟨E0, E1, (PH.close (PH.symm hx)).symm⟩, ⟨h.ok.e0, h.ok.e1⟩, h.na, by show (cClose x.b).1.now ≤ _; rw [now_close]; exact h.nb, h.len, h.br, h.t0⟩
theorem PI.read0 (h : PI iss irs N t x) (most : Int) (o : Bool) : PI iss irs N (t + 1) ⟨(cRead x.a most).1, x.b, { x.p with g0 := x.p.g0 ++ (cRead x.a most).2.1, o0 := o }⟩ ∧ ((cRead x.a most).2.2.2 ≠ 0 → (cRead x.a most).2.1 = ⟨#[]⟩) ∧
   ((cRead x.a most).2.2.1 = true → (cRead x.a most).1.st = 0 ∨ (x.p.s1 = true ∧ x.p.g0 ++ (cRead x.a most).2.1 = x.p.w1)) ∧ (x.p.g0 ++ (cRead x.a most).2.1).size ≤ x.p.w1.size ∧ x.p.w1.extract 0 (x.p.g0 ++ (cRead x.a most).2.1).size = x.p.g0 ++ (cRead x.a most).2.1 := by
 obtain ⟨E0, E1, hx⟩ := h.h
 obtain ⟨k1, k2, k3⟩ := PH.read hx most
 exact ⟨⟨⟨E0, E1, k1⟩, ⟨h.ok.e0, h.ok.e1⟩, by have := h.na; show (cRead x.a most).1.now ≤ _; rw [now_read]; omega, by have := h.nb; show x.b.now ≤ _; omega, by have := h.len; show (x.p.air.length : Int) ≤ _; omega, h.br, by have := h.t0; omega⟩, k2, k3, k1.n0, k1.g0.symm⟩
theorem PI.read1 (h : PI iss irs N t x) (most : Int) (o : Bool) : PI iss irs N (t + 1) ⟨x.a, (cRead x.b most).1, { x.p with g1 := x.p.g1 ++ (cRead x.b most).2.1, o1 := o }⟩ ∧ ((cRead x.b most).2.2.2 ≠ 0 → (cRead x.b most).2.1 = ⟨#[]⟩) ∧
   ((cRead x.b most).2.2.1 = true → (cRead x.b most).1.st = 0 ∨ (x.p.s0 = true ∧ x.p.g1 ++ (cRead x.b most).2.1 = x.p.w0)) ∧ (x.p.g1 ++ (cRead x.b most).2.1).size ≤ x.p.w0.size ∧ x.p.w0.extract 0 (x.p.g1 ++ (cRead x.b most).2.1).size = x.p.g1 ++ (cRead x.b most).2.1 := by
 obtain ⟨E0, E1, hx⟩ := h.h
 obtain ⟨k1, k2, k3⟩ := PH.read (PH.symm hx) most
 exact ⟨⟨⟨E0, E1, k1.symm⟩, ⟨h.ok.e0, h.ok.e1⟩, by have := h.na; show x.a.now ≤ _; omega, by have := h.nb; show (cRead x.b most).1.now ≤ _; rw [now_read]; omega, by have := h.len; show (x.p.air.length : Int) ≤ _; omega, h.br, by have := h.t0; omega⟩, k2, k3, k1.n0, k1.g0.symm⟩
theorem PI.come (h : PI iss irs N t x) (hg : g ∈ x.p.air) (ht : t ≤ 140737488355320) : PI iss irs N (t + 1) (Go.Proofs.Ytfpifahkpkjfgaa.come x g) := by
 obtain ⟨E0, E1, hx⟩ := h.h
 have ha := PH.air hx g hg
 have h1 := h.na
 have h2 := h.nb
 have h3 := h.len
 have h4 := h.t0
 unfold Go.Proofs.Ytfpifahkpkjfgaa.come
 by_cases hc : g.ta = 2 ∧ g.tp = 80
 ·rw [if_pos hc]
  exact ⟨⟨E0, E1, (PH.come (PH.symm hx) ht hg hc (fun e => absurd (show (1 : Int) = 2 from e.1) (by decide))).symm⟩, h.ok, by show x.a.now ≤ _; omega, by show (cIn x.b g).now ≤ _; rw [now_in]; omega, by show (x.p.air.length : Int) ≤ _; omega, h.br, by omega⟩
 ·rw [if_neg hc]
  have hc2 : g.ta = 1 ∧ g.tp = 40000 := by
   rcases ha with ⟨⟨_, _, a3, a4⟩, _⟩ | ⟨⟨_, _, a3, a4⟩, _⟩
   ·exact ⟨a3, a4⟩
   ·exact absurd ⟨a3, a4⟩ hc
  exact ⟨⟨E0, E1, PH.come hx ht hg hc2 (fun e => absurd (show (2 : Int) = 1 from e.1) (by decide))⟩, h.ok, by show (cIn x.a g).now ≤ _; rw [now_in]; omega, by show x.b.now ≤ _; omega, by show (x.p.air.length : Int) ≤ _; omega, h.br, by omega⟩
end
end Go.Proofs.Ytfpifahkpkjfgaa
/- conn: the start of a pair (plain). -/
namespace Go.Proofs.Ytfpifahkpkjfgaa
open Go.RowKit Go.Lib
set_option linter.unusedVariables false
set_option linter.unusedSimpArgs false
section
variable {iss irs ma mb : Int}
theorem pi_start (hi : 0 ≤ iss ∧ iss ≤ 4294967295) (hj : 0 ≤ irs ∧ irs ≤ 4294967295) (ha : 8 ≤ ma ∧ ma ≤ 1000) (hb : 8 ≤ mb ∧ mb ≤ 1000) : PI iss irs 0 0 (pr0 iss irs ma mb) := by
 have c1 : CI (pr0 iss irs ma mb).a 0 := ci_a1 hi ha
 have c2 : CI (pr0 iss irs ma mb).b 0 := ci_take hj hb (gSyn 1 40000 2 80 iss ma) (by decide : (0 : Int) ≤ 2048 ∧ (2048 : Int) ≤ 65535) hi
 refine ⟨⟨0, 0, ?_⟩, ⟨(by decide : (0 : Int) ≤ 0 ∧ (0 : Int) ≤ 4294967295), (by decide : (0 : Int) ≤ 0 ∧ (0 : Int) ≤ 4294967295)⟩, (by decide : (0 : Int) ≤ 0), (by decide : (0 : Int) ≤ 0), (by decide : (0 : Int) ≤ 200), rfl, (by decide : (0 : Int) ≤ 0)⟩
 refine ⟨⟨rfl, rfl, rfl, rfl, (by decide : (0 : Int) < 40000 ∧ (40000 : Int) ≤ 65535), (by decide : (0 : Int) < 80 ∧ (80 : Int) ≤ 65535), (by decide : (0 : Int) ≤ 1 ∧ (1 : Int) ≤ 4294967295), (by decide : (0 : Int) ≤ 2 ∧ (2 : Int) ≤ 4294967295)⟩, c1, c2, ?_, ?_, hi, hj, rfl, rfl, Nat.le_refl 0, Nat.le_refl 0, fun g hg => (by cases hg), fun g hg => (by cases hg), fun e => (by cases e), fun e => (by cases e), Nat.le_refl 0, by decide⟩
 ·exact ⟨⟨rfl, rfl, rfl, rfl, rfl⟩, ⟨⟨rfl, rfl⟩, fun e => (by cases e), fun e => (by cases e)⟩, ⟨fun e => absurd (show (1 : Int) ≤ 0 from e) (by decide), .inl (show (1 : Int) ≤ 1 by decide)⟩, fun q d e => (by cases e), fun _ => rfl⟩
 ·refine ⟨⟨rfl, rfl, rfl, rfl, rfl⟩, ⟨⟨rfl, rfl⟩, fun e => (by cases e), fun e => (by cases e)⟩, ⟨fun e => absurd (show (1 : Int) ≤ 0 from e) (by decide), .inl (show (0 : Int) ≤ 1 by decide)⟩, fun q d e => ?_, fun _ => rfl⟩
  have e1 : some ((newIQ : IQ), (⟨cMss mb ma, 2 * cMss mb ma, 65535⟩ : KWd)) = some (q, d) := e
  injection e1 with e2
  injection e2 with e3 e4
  rw [← e3]
  exact ⟨good_new _ _, rfl⟩
end
end Go.Proofs.Ytfpifahkpkjfgaa
/- conn: the steps until nothing is in the air (plain). -/
namespace Go.Proofs.Ytfpifahkpkjfgaa
open Go.RowKit Go.Lib
set_option linter.unusedVariables false
set_option linter.unusedSimpArgs false
/-- what the walk asks of a step -/
def QOk (x : KPr) (g : KSeg) (l : List KSeg) (z : KPr) : Prop :=
 ∃ t : Int, t ≤ 1000000000000 ∧ CI x.a t ∧ CI x.b t ∧ SegOk g ∧ CI (come ⟨x.a, x.b, { x.p with air := l }⟩ g).a t ∧ CI (come ⟨x.a, x.b, { x.p with air := l }⟩ g).b t ∧ POk (come ⟨x.a, x.b, { x.p with air := l }⟩ g).p ∧ (come ⟨x.a, x.b, { x.p with air := l }⟩ g).p.air.length ≤ 1000000000 ∧
  sends (come ⟨x.a, x.b, { x.p with air := l }⟩ g) = some z ∧ (∀ s ∈ (cOut (come ⟨x.a, x.b, { x.p with air := l }⟩ g).a).2, SegOk s) ∧ (∀ s ∈ (cOut (come ⟨x.a, x.b, { x.p with air := l }⟩ g).b).2, SegOk s)
def Qx : Nat → KPr → KPr → Prop
 | 0, x, y => x = y ∧ x.p.air = []
 | n + 1, x, y => ∃ g l z, x.p.air = g :: l ∧ QOk x g l z ∧ Qx n z y
theorem qx_nil {n : Nat} {x y : KPr} (h : Qx n x y) (ha : x.p.air = []) : x = y := by
  cases n with
  | zero => exact h.1
  | succ n =>
    obtain ⟨g, l, z, h1, _⟩ := h
    rw [ha] at h1; cases h1
theorem qx_cons {n : Nat} {x y : KPr} {g : KSeg} {l : List KSeg} (h : Qx n x y) (ha : x.p.air = g :: l) : ∃ z, 0 < n ∧ QOk x g l z ∧ Qx (n - 1) z y := by
  cases n with
  | zero => have := h.2; rw [ha] at this; cases this
  | succ n =>
    obtain ⟨g', l', z, h1, h2, h3⟩ := h
    rw [ha] at h1
    injection h1 with e1 e2
    subst e1 e2
    exact ⟨z, Nat.succ_pos n, h2, h3⟩
end Go.Proofs.Ytfpifahkpkjfgaa
/- conn: two that dial one another at the same time meet (plain). -/
namespace Go.Proofs.Ytfpifahkpkjfgaa
open Go.RowKit Go.Lib
set_option linter.unusedVariables false
set_option linter.unusedSimpArgs false
section
variable {la lp ra rp iss irs own m : Int}
theorem settle_same {c : KCn} (h0 : c.st ≠ 0) (h9 : c.st ≠ 9) (hw : cWaits c) (hc : 0 ≤ c.clock) : cSettle c = c := by
 unfold cSettle
 rw [if_neg (by
  rintro (h | h | h)
  ·exact h0 h
  ·exact h9 h
  ·exact h hw), if_neg (by omega)]
end
section
variable {la lp ra rp iss irs own mo : Int}
end
end Go.Proofs.Ytfpifahkpkjfgaa
/- conn: ConnBlind, plain: two meet; then one who does not know the next number tries to break it off. -/
namespace Go.Proofs.Ytfpifahkpkjfgaa
open Go.RowKit Go.Lib
set_option linter.unusedVariables false
set_option linter.unusedSimpArgs false
theorem exec_eqs {P : Program} {o : Oper} {a : Act} (T : TypeId) (x y : Operand) (R : TypeId) (ho : o.op = .binOp .eql T x y R) (X Y : Array Value) (hx : a.eval x = .agg X) (hy : a.eval y = .agg Y) (hg : P.eqGuardType P.depth T = false) (b : Bool) (heq : ∀ W, (Op.equalIn 10000 T (.agg X) (.agg Y)).run P W = .ok b W) (w : World) : (execOp a.eval o).run P w = .ok (.value (.bool b)) w := by
 unfold execOp
 simp only [ho, hx, hy, Sem.run_bind, run_eqGuard_agg (hm := hg), run_eql_struct, heq, Sem.run_pure, Result.andThen_ok]
section
variable {iss irs : Int}
theorem out_a1 {la lp ra rp iss own : Int} : cOut (cA1 la lp ra rp iss own) = (cA1 la lp ra rp iss own, []) := by
 rw [out_none (show (1 : Int) ≠ 0 by decide) rfl rfl rfl]
 refine Prod.ext ?_ rfl
 exact settle_same (c := cA1 la lp ra rp iss own) (show (1 : Int) ≠ 0 by decide) (show (1 : Int) ≠ 9 by decide) (.inl (show (0 : Int) < 1 by decide)) (show (0 : Int) ≤ 0 by decide)
theorem out_b1' {la lp ra rp iss irs own m : Int} : cOut (cB1 la lp ra rp iss irs own m) = (cB1 la lp ra rp iss irs own m, []) := by
 rw [out_none (show (2 : Int) ≠ 0 by decide) rfl rfl rfl]
 refine Prod.ext ?_ rfl
 exact settle_same (c := cB1 la lp ra rp iss irs own m) (show (2 : Int) ≠ 0 by decide) (show (2 : Int) ≠ 9 by decide) (.inl (show (0 : Int) < 1 by decide)) (show (0 : Int) ≤ 0 by decide)
end
end Go.Proofs.Ytfpifahkpkjfgaa
