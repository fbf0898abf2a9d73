/- What ConnStops needs, a part: CnSi, CnSj, CnQx, CnBo, CnBl. -/
import Derived.Test.YtfpifahkpkjfgaaMConnStops36
namespace Go.Proofs.Ytfpifahkpkjfgaa
open Go.RowKit Go.Lib
set_option linter.unusedVariables false
set_option linter.unusedSimpArgs false
section
variable {iss irs t E0 E1 : Int} {a b : KCn} {p q : KPa} {x y : KPr} {N : Nat} {g : KSeg}
def PX (iss irs : Int) (a b : KCn) (p : KPa) (E0 E1 : Int) (N : Nat) (t : Int) : Prop :=
 PH ⟨1, 40000, 2, 80, iss⟩ ⟨2, 80, 1, 40000, irs⟩ a b p.w0 p.w1 p.g0 p.g1 p.s0 p.s1 p.t0 p.t1 p.e0 p.e1 p.air E0 E1 N t
structure Sp (p q : KPa) : Prop where
 w0 : q.w0 = p.w0
 w1 : q.w1 = p.w1
 g0 : q.g0 = p.g0
 g1 : q.g1 = p.g1
 s0 : q.s0 = p.s0
 s1 : q.s1 = p.s1
 br : q.br = p.br
theorem Sp.trans {r : KPa} (h : Sp p q) (k : Sp q r) : Sp p r := ⟨k.w0.trans h.w0, k.w1.trans h.w1, k.g0.trans h.g0, k.g1.trans h.g1, k.s0.trans h.s0, k.s1.trans h.s1, k.br.trans h.br⟩
def tellT (p : KPa) (g : KSeg) : Prop := g.has = true ∧ g.rst = false ∧ (p.t1 = false ∨ lessB p.e1 (sdEdge g) = true)
def tellF (p : KPa) (g : KSeg) : Prop := g.has = true ∧ g.rst = false ∧ (p.t0 = false ∨ lessB p.e0 (sdEdge g) = true)
instance : Decidable (tellT p g) := by unfold tellT; infer_instance
instance : Decidable (tellF p g) := by unfold tellF; infer_instance
theorem stepT (p : KPa) (g : KSeg) : sdStep true p g = { p with e1 := if tellT p g then sdEdge g else p.e1, t1 := if tellT p g then true else p.t1, air := airP p.air g } := by
 unfold sdStep sdAir airP
 rw [sdTell_air, sdTell_t]
 by_cases h : tellT p g
 ·have h' := h
  unfold tellT at h'
  rw [if_pos h', if_pos h, if_pos h]
  split <;> rfl
 ·have h' := h
  unfold tellT at h'
  rw [if_neg h', if_neg h, if_neg h]
  split <;> rfl
theorem stepF (p : KPa) (g : KSeg) : sdStep false p g = { p with e0 := if tellF p g then sdEdge g else p.e0, t0 := if tellF p g then true else p.t0, air := airP p.air g } := by
 unfold sdStep sdAir airP
 rw [sdTell_air, sdTell_f]
 by_cases h : tellF p g
 ·have h' := h
  unfold tellF at h'
  rw [if_pos h', if_pos h, if_pos h]
  split <;> rfl
 ·have h' := h
  unfold tellF at h'
  rw [if_neg h', if_neg h, if_neg h]
  split <;> rfl
theorem px_emitT (h : PX iss irs a b p E0 E1 N t) (hg : SegOut p.w0 p.s0 a (oL a) g) : sdOk true p g = true ∧ Sp p (sdStep true p g) ∧ ∃ E', PX iss irs a b (sdStep true p g) E0 E' N t := by
 have h0 : PH ⟨1, 40000, 2, 80, iss⟩ ⟨2, 80, 1, 40000, irs⟩ a b p.w0 p.w1 p.g0 p.g1 p.s0 p.s1 p.t0 p.t1 p.e0 p.e1 p.air E0 E1 N t := h
 have k1 := seg_chk h0.xa h0.ca h0.tt hg
 have k2 := seg_in h0.xa h0.ca h0.e0 hg
 obtain ⟨⟨a1, a2, a3, a4⟩, _⟩ := id hg
 have b1 := a1.trans h0.xa.ad.la
 have b2 := a2.trans h0.xa.ad.lp
 have b3 := a3.trans h0.xa.ad.ra
 have b4 := a4.trans h0.xa.ad.rp
 refine ⟨?_, ?_, ?_⟩
 ·show (decide (g.fa = 1 ∧ g.fp = 40000) && (decide (g.ta = 2 ∧ g.tp = 80) && decide (tcChk g = 0)) && !(p.t0 && (decide (0 < (g.b.size : Int)) && lessB (u32 (p.e0 + 1)) (u32 (g.seq + u32 g.b.size))))) = true
  rw [k2, decide_eq_true (show g.fa = 1 ∧ g.fp = 40000 from ⟨b1, b2⟩), decide_eq_true (show g.ta = 2 ∧ g.tp = 80 from ⟨b3, b4⟩), decide_eq_true k1]; rfl
 ·rw [stepT]; exact ⟨rfl, rfl, rfl, rfl, rfl, rfl, rfl⟩
 ·rw [stepT]; exact h0.emit hg
theorem px_emitF (h : PX iss irs a b p E0 E1 N t) (hg : SegOut p.w1 p.s1 b (oL b) g) : sdOk false p g = true ∧ Sp p (sdStep false p g) ∧ ∃ E', PX iss irs a b (sdStep false p g) E' E1 N t := by
 have h1 : PH ⟨1, 40000, 2, 80, iss⟩ ⟨2, 80, 1, 40000, irs⟩ a b p.w0 p.w1 p.g0 p.g1 p.s0 p.s1 p.t0 p.t1 p.e0 p.e1 p.air E0 E1 N t := h
 have h0 := h1.symm
 have k1 := seg_chk h0.xa h0.ca h0.tt hg
 have k2 := seg_in h0.xa h0.ca h0.e0 hg
 obtain ⟨⟨a1, a2, a3, a4⟩, _⟩ := id hg
 have b1 := a1.trans h0.xa.ad.la
 have b2 := a2.trans h0.xa.ad.lp
 have b3 := a3.trans h0.xa.ad.ra
 have b4 := a4.trans h0.xa.ad.rp
 refine ⟨?_, ?_, ?_⟩
 ·show (decide (g.fa = 2 ∧ g.fp = 80) && (decide (g.ta = 1 ∧ g.tp = 40000) && decide (tcChk g = 0)) && !(p.t1 && (decide (0 < (g.b.size : Int)) && lessB (u32 (p.e1 + 1)) (u32 (g.seq + u32 g.b.size))))) = true
  rw [k2, decide_eq_true (show g.fa = 2 ∧ g.fp = 80 from ⟨b1, b2⟩), decide_eq_true (show g.ta = 1 ∧ g.tp = 40000 from ⟨b3, b4⟩), decide_eq_true k1]; rfl
 ·rw [stepF]; exact ⟨rfl, rfl, rfl, rfl, rfl, rfl, rfl⟩
 ·rw [stepF]
  obtain ⟨E', h2⟩ := h0.emit hg
  exact ⟨E', h2.symm⟩
theorem px_listT : ∀ (l : List KSeg) (p : KPa) (E1 : Int), PX iss irs a b p E0 E1 N t → (∀ g ∈ l, SegOut p.w0 p.s0 a (oL a) g) → ∃ q E', sdList true p l = some q ∧ PX iss irs a b q E0 E' N t ∧ Sp p q
  | [], p, E1, h, hl => ⟨p, E1, rfl, h, ⟨rfl, rfl, rfl, rfl, rfl, rfl, rfl⟩⟩
  | g :: l, p, E1, h, hl => by
    obtain ⟨k1, k2, E', k3⟩ := px_emitT h (hl g (List.mem_cons_self ..))
    obtain ⟨q, E2, e1, e2, e3⟩ := px_listT l _ E' k3 (fun x hx => by rw [k2.w0, k2.s0]; exact hl x (List.mem_cons_of_mem _ hx))
    refine ⟨q, E2, ?_, e2, k2.trans e3⟩
    unfold sdList
    rw [if_pos k1]; exact e1
theorem px_listF : ∀ (l : List KSeg) (p : KPa) (E0 : Int), PX iss irs a b p E0 E1 N t → (∀ g ∈ l, SegOut p.w1 p.s1 b (oL b) g) → ∃ q E', sdList false p l = some q ∧ PX iss irs a b q E' E1 N t ∧ Sp p q
  | [], p, E0, h, hl => ⟨p, E0, rfl, h, ⟨rfl, rfl, rfl, rfl, rfl, rfl, rfl⟩⟩
  | g :: l, p, E0, h, hl => by
    obtain ⟨k1, k2, E', k3⟩ := px_emitF h (hl g (List.mem_cons_self ..))
    obtain ⟨q, E2, e1, e2, e3⟩ := px_listF l _ E' k3 (fun x hx => by rw [k2.w1, k2.s1]; exact hl x (List.mem_cons_of_mem _ hx))
    refine ⟨q, E2, ?_, e2, k2.trans e3⟩
    unfold sdList
    rw [if_pos k1]; exact e1
structure PI (iss irs : Int) (N : Nat) (t : Int) (x : KPr) : Prop where
 h : ∃ E0 E1, PX iss irs x.a x.b x.p E0 E1 N t
 ok : POk x.p
 na : x.a.now ≤ 4 * t
 nb : x.b.now ≤ 4 * t
 len : (x.p.air.length : Int) ≤ 200 + t
 br : x.p.br = false
 t0 : 0 ≤ t
theorem PI.sends (h : PI iss irs N t x) : ∃ y, Go.Proofs.Ytfpifahkpkjfgaa.sends x = some y ∧ PI iss irs N t y ∧ (∀ g ∈ (cOut x.a).2, SegOk g) ∧ (∀ g ∈ (cOut x.b).2, SegOk g) := by
 obtain ⟨E0, E1, hx⟩ := h.h
 have hx0 : PH ⟨1, 40000, 2, 80, iss⟩ ⟨2, 80, 1, 40000, irs⟩ x.a x.b x.p.w0 x.p.w1 x.p.g0 x.p.g1 x.p.s0 x.p.s1 x.p.t0 x.p.t1 x.p.e0 x.p.e1 x.p.air E0 E1 N t := hx
 have o1 := (out_segs hx0.ca hx0.xa.hd).1
 have o2 := (out_segs hx0.cb hx0.xb.hd).1
 obtain ⟨q1, E1', k1, k2, k3⟩ := px_listT (cOut x.a).2 x.p E1 hx o1
 obtain ⟨q2, E0', k4, k5, k6⟩ := px_listF (cOut x.b).2 q1 E0 k2 (fun g hg => by rw [k3.w1, k3.s1]; exact o2 g hg)
 have hk5 : PH ⟨1, 40000, 2, 80, iss⟩ ⟨2, 80, 1, 40000, irs⟩ x.a x.b q2.w0 q2.w1 q2.g0 q2.g1 q2.s0 q2.s1 q2.t0 q2.t1 q2.e0 q2.e1 q2.air E0' E1' N t := k5
 have hlen := h.len
 have ht0 := h.t0
 obtain ⟨n, hn⟩ : ∃ n : Nat, (n : Int) = 200 + t := ⟨(200 + t).toNat, by omega⟩
 obtain ⟨b1, b2⟩ := sdList_bd true n (by omega) _ _ _ k1 h.ok (by omega)
 obtain ⟨b3, b4⟩ := sdList_bd false n (by omega) _ _ _ k4 b1 b2
 refine ⟨⟨(cOut x.a).1, (cOut x.b).1, q2⟩, ?_, ⟨⟨E0', E1', hk5.outA.symm.outA.symm⟩, b3, ?_, ?_, ?_, ?_, ht0⟩, fun g hg => seg_ok hx0.xa hx0.ca hx0.tt (o1 g hg), fun g hg => seg_ok hx0.xb hx0.cb hx0.tt.symm (o2 g hg)⟩
 ·unfold Go.Proofs.Ytfpifahkpkjfgaa.sends
  rw [k1]
  show (match sdList false q1 (cOut x.b).2 with | none => none | some p2 => some (⟨(cOut x.a).1, (cOut x.b).1, p2⟩ : KPr)) = _
  rw [k4]
 ·show (cOut x.a).1.now ≤ _
  rw [now_out]; exact h.na
 ·show (cOut x.b).1.now ≤ _
  rw [now_out]; exact h.nb
 ·show (q2.air.length : Int) ≤ _
  omega
 ·show q2.br = false
  rw [k6.br, k3.br]; exact h.br
theorem PI.time {t' : Int} (h : PI iss irs N t x) (ht : t ≤ t') : PI iss irs N t' x := by
 obtain ⟨E0, E1, hx⟩ := h.h
 exact ⟨⟨E0, E1, PH.time hx ht⟩, h.ok, by have := h.na; omega, by have := h.nb; omega, by have := h.len; omega, h.br, by have := h.t0; omega⟩
theorem PI.few {l : List KSeg} (h : PI iss irs N t x) (hl : ∀ g ∈ l, g ∈ x.p.air) (hn : (l.length : Int) ≤ 200 + t) : PI iss irs N t ⟨x.a, x.b, { x.p with air := l }⟩ := by
 obtain ⟨E0, E1, hx⟩ := h.h
 exact ⟨⟨E0, E1, PH.few hx hl⟩, ⟨h.ok.e0, h.ok.e1⟩, h.na, h.nb, hn, h.br, h.t0⟩
theorem PI.write0 (h : PI iss irs N t x) (S : ByteArray) (hN : N + S.size ≤ 1048576) : PI iss irs (N + S.size) (t + 1) ⟨(cWrite x.a S).1, x.b, { x.p with w0 := x.p.w0 ++ S.extract 0 (cWrite x.a S).2.1.toNat }⟩ := by
 obtain ⟨E0, E1, hx⟩ := h.h
 exact ⟨⟨E0, E1, PH.write hx S hN⟩, ⟨h.ok.e0, h.ok.e1⟩, by have := h.na; show (cWrite x.a S).1.now ≤ _; rw [now_write]; omega, by have := h.nb; show x.b.now ≤ _; omega, by have := h.len; show (x.p.air.length : Int) ≤ _; omega, h.br, by have := h.t0; omega⟩
theorem PI.tick (h : PI iss irs N t x) (k : Int) (hk : 0 ≤ k ∧ k ≤ 4) (ht : t ≤ 200000000000) : PI iss irs N (t + 1) ⟨cTick x.a k, cTick x.b k, x.p⟩ := by
 obtain ⟨E0, E1, hx⟩ := h.h
 have h1 := h.na
 have h2 := h.nb
 have h3 : PX iss irs (cTick x.a k) (cTick x.b k) x.p E0 E1 N t := ((PH.tick hx k hk.1 (by omega)).symm.tick k hk.1 (by omega)).symm
 exact ⟨⟨E0, E1, PH.time h3 (by omega)⟩, h.ok, by show (cTick x.a k).now ≤ _; rw [now_tick]; omega, by show (cTick x.b k).now ≤ _; rw [now_tick]; omega, by have := h.len; show (x.p.air.length : Int) ≤ _; omega, h.br, by have := h.t0; omega⟩
theorem PI.read0 (h : PI iss irs N t x) (most : Int) (o : Bool) : PI iss irs N (t + 1) ⟨(cRead x.a most).1, x.b, { x.p with g0 := x.p.g0 ++ (cRead x.a most).2.1, o0 := o }⟩ ∧ ((cRead x.a most).2.2.2 ≠ 0 → (cRead x.a most).2.1 = ⟨#[]⟩) ∧
   ((cRead x.a most).2.2.1 = true → (cRead x.a most).1.st = 0 ∨ (x.p.s1 = true ∧ x.p.g0 ++ (cRead x.a most).2.1 = x.p.w1)) ∧ (x.p.g0 ++ (cRead x.a most).2.1).size ≤ x.p.w1.size ∧ x.p.w1.extract 0 (x.p.g0 ++ (cRead x.a most).2.1).size = x.p.g0 ++ (cRead x.a most).2.1 := by
 obtain ⟨E0, E1, hx⟩ := h.h
 obtain ⟨k1, k2, k3⟩ := PH.read hx most
 exact ⟨⟨⟨E0, E1, k1⟩, ⟨h.ok.e0, h.ok.e1⟩, by have := h.na; show (cRead x.a most).1.now ≤ _; rw [now_read]; omega, by have := h.nb; show x.b.now ≤ _; omega, by have := h.len; show (x.p.air.length : Int) ≤ _; omega, h.br, by have := h.t0; omega⟩, k2, k3, k1.n0, k1.g0.symm⟩
theorem PI.read1 (h : PI iss irs N t x) (most : Int) (o : Bool) : PI iss irs N (t + 1) ⟨x.a, (cRead x.b most).1, { x.p with g1 := x.p.g1 ++ (cRead x.b most).2.1, o1 := o }⟩ ∧ ((cRead x.b most).2.2.2 ≠ 0 → (cRead x.b most).2.1 = ⟨#[]⟩) ∧
   ((cRead x.b most).2.2.1 = true → (cRead x.b most).1.st = 0 ∨ (x.p.s0 = true ∧ x.p.g1 ++ (cRead x.b most).2.1 = x.p.w0)) ∧ (x.p.g1 ++ (cRead x.b most).2.1).size ≤ x.p.w0.size ∧ x.p.w0.extract 0 (x.p.g1 ++ (cRead x.b most).2.1).size = x.p.g1 ++ (cRead x.b most).2.1 := by
 obtain ⟨E0, E1, hx⟩ := h.h
 obtain ⟨k1, k2, k3⟩ := PH.read (PH.symm hx) most
 exact ⟨⟨⟨E0, E1, k1.symm⟩, ⟨h.ok.e0, h.ok.e1⟩, by have := h.na; show x.a.now ≤ _; omega, by have := h.nb; show (cRead x.b most).1.now ≤ _; rw [now_read]; omega, by have := h.len; show (x.p.air.length : Int) ≤ _; omega, h.br, by have := h.t0; omega⟩, k2, k3, k1.n0, k1.g0.symm⟩
theorem PI.come (h : PI iss irs N t x) (hg : g ∈ x.p.air) (ht : t ≤ 140737488355320) : PI iss irs N (t + 1) (Go.Proofs.Ytfpifahkpkjfgaa.come x g) := by
 obtain ⟨E0, E1, hx⟩ := h.h
 have ha := PH.air hx g hg
 have h1 := h.na
 have h2 := h.nb
 have h3 := h.len
 have h4 := h.t0
 unfold Go.Proofs.Ytfpifahkpkjfgaa.come
 by_cases hc : g.ta = 2 ∧ g.tp = 80
 ·rw [if_pos hc]
  exact ⟨⟨E0, E1, (PH.come (PH.symm hx) ht hg hc (fun e => absurd (show (1 : Int) = 2 from e.1) (by decide))).symm⟩, h.ok, by show x.a.now ≤ _; omega, by show (cIn x.b g).now ≤ _; rw [now_in]; omega, by show (x.p.air.length : Int) ≤ _; omega, h.br, by omega⟩
 ·rw [if_neg hc]
  have hc2 : g.ta = 1 ∧ g.tp = 40000 := by
   rcases ha with ⟨⟨_, _, a3, a4⟩, _⟩ | ⟨⟨_, _, a3, a4⟩, _⟩
   ·exact ⟨a3, a4⟩
   ·exact absurd ⟨a3, a4⟩ hc
  exact ⟨⟨E0, E1, PH.come hx ht hg hc2 (fun e => absurd (show (2 : Int) = 1 from e.1) (by decide))⟩, h.ok, by show (cIn x.a g).now ≤ _; rw [now_in]; omega, by show x.b.now ≤ _; omega, by show (x.p.air.length : Int) ≤ _; omega, h.br, by omega⟩
end
section
variable {iss irs ma mb : Int}
theorem pi_start (hi : 0 ≤ iss ∧ iss ≤ 4294967295) (hj : 0 ≤ irs ∧ irs ≤ 4294967295) (ha : 8 ≤ ma ∧ ma ≤ 1000) (hb : 8 ≤ mb ∧ mb ≤ 1000) : PI iss irs 0 0 (pr0 iss irs ma mb) := by
 have c1 : CI (pr0 iss irs ma mb).a 0 := ci_a1 hi ha
 have c2 : CI (pr0 iss irs ma mb).b 0 := ci_take hj hb (gSyn 1 40000 2 80 iss ma) (by decide : (0 : Int) ≤ 2048 ∧ (2048 : Int) ≤ 65535) hi
 refine ⟨⟨0, 0, ?_⟩, ⟨(by decide : (0 : Int) ≤ 0 ∧ (0 : Int) ≤ 4294967295), (by decide : (0 : Int) ≤ 0 ∧ (0 : Int) ≤ 4294967295)⟩, (by decide : (0 : Int) ≤ 0), (by decide : (0 : Int) ≤ 0), (by decide : (0 : Int) ≤ 200), rfl, (by decide : (0 : Int) ≤ 0)⟩
 refine ⟨⟨rfl, rfl, rfl, rfl, (by decide : (0 : Int) < 40000 ∧ (40000 : Int) ≤ 65535), (by decide : (0 : Int) < 80 ∧ (80 : Int) ≤ 65535), (by decide : (0 : Int) ≤ 1 ∧ (1 : Int) ≤ 4294967295), (by decide : (0 : Int) ≤ 2 ∧ (2 : Int) ≤ 4294967295)⟩, c1, c2, ?_, ?_, hi, hj, rfl, rfl, Nat.le_refl 0, Nat.le_refl 0, fun g hg => (by cases hg), fun g hg => (by cases hg), fun e => (by cases e), fun e => (by cases e), Nat.le_refl 0, by decide⟩
 ·exact ⟨⟨rfl, rfl, rfl, rfl, rfl⟩, ⟨⟨rfl, rfl⟩, fun e => (by cases e), fun e => (by cases e)⟩, ⟨fun e => absurd (show (1 : Int) ≤ 0 from e) (by decide), .inl (show (1 : Int) ≤ 1 by decide)⟩, fun q d e => (by cases e), fun _ => rfl⟩
 ·refine ⟨⟨rfl, rfl, rfl, rfl, rfl⟩, ⟨⟨rfl, rfl⟩, fun e => (by cases e), fun e => (by cases e)⟩, ⟨fun e => absurd (show (1 : Int) ≤ 0 from e) (by decide), .inl (show (0 : Int) ≤ 1 by decide)⟩, fun q d e => ?_, fun _ => rfl⟩
  have e1 : some ((newIQ : IQ), (⟨cMss mb ma, 2 * cMss mb ma, 65535⟩ : KWd)) = some (q, d) := e
  injection e1 with e2
  injection e2 with e3 e4
  rw [← e3]
  exact ⟨good_new _ _, rfl⟩
end
def QOk (x : KPr) (g : KSeg) (l : List KSeg) (z : KPr) : Prop :=
 ∃ t : Int, t ≤ 1000000000000 ∧ CI x.a t ∧ CI x.b t ∧ SegOk g ∧ CI (come ⟨x.a, x.b, { x.p with air := l }⟩ g).a t ∧ CI (come ⟨x.a, x.b, { x.p with air := l }⟩ g).b t ∧ POk (come ⟨x.a, x.b, { x.p with air := l }⟩ g).p ∧ (come ⟨x.a, x.b, { x.p with air := l }⟩ g).p.air.length ≤ 1000000000 ∧
  sends (come ⟨x.a, x.b, { x.p with air := l }⟩ g) = some z ∧ (∀ s ∈ (cOut (come ⟨x.a, x.b, { x.p with air := l }⟩ g).a).2, SegOk s) ∧ (∀ s ∈ (cOut (come ⟨x.a, x.b, { x.p with air := l }⟩ g).b).2, SegOk s)
def Qx : Nat → KPr → KPr → Prop
 | 0, x, y => x = y ∧ x.p.air = []
 | n + 1, x, y => ∃ g l z, x.p.air = g :: l ∧ QOk x g l z ∧ Qx n z y
theorem qx_nil {n : Nat} {x y : KPr} (h : Qx n x y) (ha : x.p.air = []) : x = y := by
  cases n with
  | zero => exact h.1
  | succ n =>
    obtain ⟨g, l, z, h1, _⟩ := h
    rw [ha] at h1; cases h1
theorem qx_cons {n : Nat} {x y : KPr} {g : KSeg} {l : List KSeg} (h : Qx n x y) (ha : x.p.air = g :: l) : ∃ z, 0 < n ∧ QOk x g l z ∧ Qx (n - 1) z y := by
  cases n with
  | zero => have := h.2; rw [ha] at this; cases this
  | succ n =>
    obtain ⟨g', l', z, h1, h2, h3⟩ := h
    rw [ha] at h1
    injection h1 with e1 e2
    subst e1 e2
    exact ⟨z, Nat.succ_pos n, h2, h3⟩
section
variable {la lp ra rp iss irs own m : Int}
theorem settle_same {c : KCn} (h0 : c.st ≠ 0) (h9 : c.st ≠ 9) (hw : cWaits c) (hc : 0 ≤ c.clock) : cSettle c = c := by
 unfold cSettle
 rw [if_neg (by
  rintro (h | h | h)
  ·exact h0 h
  ·exact h9 h
  ·exact h hw), if_neg (by omega)]
end
section
variable {la lp ra rp iss irs own mo : Int}
end
theorem exec_eqs {P : Program} {o : Oper} {a : Act} (T : TypeId) (x y : Operand) (R : TypeId) (ho : o.op = .binOp .eql T x y R) (X Y : Array Value) (hx : a.eval x = .agg X) (hy : a.eval y = .agg Y) (hg : P.eqGuardType P.depth T = false) (b : Bool) (heq : ∀ W, (Op.equalIn 10000 T (.agg X) (.agg Y)).run P W = .ok b W) (w : World) : (execOp a.eval o).run P w = .ok (.value (.bool b)) w := by
 unfold execOp
 simp only [ho, hx, hy, Sem.run_bind, run_eqGuard_agg (hm := hg), run_eql_struct, heq, Sem.run_pure, Result.andThen_ok]
section
variable {iss irs : Int}
theorem out_a1 {la lp ra rp iss own : Int} : cOut (cA1 la lp ra rp iss own) = (cA1 la lp ra rp iss own, []) := by
 rw [out_none (show (1 : Int) ≠ 0 by decide) rfl rfl rfl]
 refine Prod.ext ?_ rfl
 exact settle_same (c := cA1 la lp ra rp iss own) (show (1 : Int) ≠ 0 by decide) (show (1 : Int) ≠ 9 by decide) (.inl (show (0 : Int) < 1 by decide)) (show (0 : Int) ≤ 0 by decide)
theorem out_b1' {la lp ra rp iss irs own m : Int} : cOut (cB1 la lp ra rp iss irs own m) = (cB1 la lp ra rp iss irs own m, []) := by
 rw [out_none (show (2 : Int) ≠ 0 by decide) rfl rfl rfl]
 refine Prod.ext ?_ rfl
 exact settle_same (c := cB1 la lp ra rp iss irs own m) (show (2 : Int) ≠ 0 by decide) (show (2 : Int) ≠ 9 by decide) (.inl (show (0 : Int) < 1 by decide)) (show (0 : Int) ≤ 0 by decide)
end
end Go.Proofs.Ytfpifahkpkjfgaa
