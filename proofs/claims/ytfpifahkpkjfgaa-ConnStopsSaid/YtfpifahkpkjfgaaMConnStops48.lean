/- What ConnStops needs, a part: CnKn, CnFi, CnKo. -/
import Derived.Test.YtfpifahkpkjfgaaMConnStops47
namespace Go.Proofs.Ytfpifahkpkjfgaa
open Go.RowKit Go.Lib
set_option linter.unusedVariables false
set_option linter.unusedSimpArgs false
section
variable {iss irs : Int} {N : Nat} {t : Int} {x : KPr} {q : IQ} {M V D : Int} {R : Option Int} {W : KWd} {mr : Int} {O : OQ} {U w ℓ E Q m : Int} {s : KCn}
theorem come_b {z : KPr} {g : KSeg} {l : List KSeg} (h1 : g.ta = 2) (h2 : g.tp = 80) : come ⟨z.a, z.b, { z.p with air := l }⟩ g = ⟨z.a, cIn z.b g, { z.p with air := l }⟩ := by
 unfold come; rw [if_pos ⟨h1, h2⟩]
theorem come_a {z : KPr} {g : KSeg} {l : List KSeg} (h1 : g.ta = 1) : come ⟨z.a, z.b, { z.p with air := l }⟩ g = ⟨cIn z.a g, z.b, { z.p with air := l }⟩ := by
 unfold come; rw [if_neg (fun e => by have h2 := h1.symm.trans e.1; exact absurd h2 (show ¬ (1 : Int) = 2 by decide))]
theorem air_1 {x z : KPr} {g : KSeg} (h : sends x = some z) (hair : x.p.air = []) (ha : (cOut x.a).2 = []) (hb : (cOut x.b).2 = [g]) : z.p.air = [g] := by
 obtain ⟨_, _, k3, _⟩ := sends_outs h
 rw [k3, ha, hb, hair]; rfl
theorem air_0 {x z : KPr} (h : sends x = some z) (hair : x.p.air = []) (ha : (cOut x.a).2 = []) (hb : (cOut x.b).2 = []) : z.p.air = [] := by
 obtain ⟨_, _, k3, _⟩ := sends_outs h
 rw [k3, ha, hb, hair]; rfl
theorem rnd_4 (hP : PI iss irs N t x) (ht : 0 ≤ t ∧ t ≤ 100000) (hair : x.p.air = []) (hxa : x.a = { s with o := { s.o with sent := 2050 } }) (hs : FSl (adA iss) (adB irs) s q V 2049 2049 m 2049 (2 * m)) (hmm : s.mss = m)
  (hq : 2050 ≤ qEnd s.o ∧ qEnd s.o ≤ 4001) (hsh : s.shut = false) (hck : 0 ≤ s.clock) (hv : valZ s.tm.k s.tm.m s.tm.s s.tm.d ≤ s.now + 3 - s.clock) (hg : s.gone ≠ 8) (hn : 0 ≤ s.now + 3)
  (hr : FR (adA iss) (adB irs) x.b 2049 V 2049 R W mr false O false false) (hcb : x.b.clock = -1) (hR : ∀ x, R = some x → 2048 - (endZ q - q.rd) = x) : Rnd 3 x := by
 have hp := ad_to iss irs
 have hm := hs.m
 rw [hmm] at hm
 obtain ⟨b1, b2⟩ := hr.tick hcb 3
 have p1 := tick_pi hP (by omega)
 obtain ⟨s', hs'⟩ : ∃ s' : KCn, s' = { s with now := s.now + 3, gone := s.gone + 1, tm := { s.tm with d := if s.tm.d < 6 then s.tm.d + 1 else 6 }, clock := s.now + 3 } := ⟨_, rfl⟩
 have f1 : FSl (adA iss) (adB irs) s' q V 2049 2049 m 2049 (2 * m) := by
  rw [hs']; exact hs.of2 s.same s.wat s.wak (s.now + 3) (s.gone + 1) { s.tm with d := if s.tm.d < 6 then s.tm.d + 1 else 6 } (s.now + 3) s.meas s.wh
 have hqs : qEnd s'.o = qEnd s.o ∧ s'.shut = s.shut ∧ s'.clock = s.now + 3 ∧ s'.mss = s.mss := by rw [hs']; exact ⟨rfl, rfl, rfl, rfl⟩
 have e1 : cTick x.a 3 = { s' with o := { s'.o with sent := 2050 }, probe := true } := by
  rw [hxa, tick_probe (c := { s with o := { s.o with sent := 2050 } }) hs.st0.1 hs.st9 hck 3 hv hg hn (by show s.o.cur = s.o.una; rw [hs.cur, hs.una]) (hs.wtS (by omega) 2050), hs']
 obtain ⟨s1, g, o1, f2, d1, d2, d3, e2, q1⟩ := f1.probeS (by omega) (hqs.2.1.trans hsh) hR hp 2050 (.inr rfl) (by omega)
 rw [← e1] at o1
 have hs1 : s1.mss = m ∧ s1.shut = false ∧ s1.clock = s.now + 3 := by
  rw [e2]
  exact ⟨hqs.2.2.2.trans hmm, hqs.2.1.trans hsh, hqs.2.2.1⟩
 obtain ⟨c1, c2⟩ := b2.none (fr_room hr (by omega)) (pb_ok irs)
 obtain ⟨z1, k1, k2, k3, k4, k5, _⟩ := sends_one (g := g) p1 (by omega) hair (.inl ⟨by dsimp only; rw [o1], c2⟩)
 dsimp only at k3 k4
 rw [o1] at k3
 dsimp only at k3
 rw [← k4] at c1
 obtain ⟨z2, m1, m2, m3, _, _⟩ := step_pi k2 k5 (by omega)
 obtain ⟨_, _, a3, a4⟩ := d1.ad
 rw [come_b a3 a4] at m3
 have hbs := ba_size_len g d1.syn
 rw [d2, d3] at hbs
 have r1 := c1.data hp d1 (by simp at hbs; omega) (by omega) (by omega)
 rw [d2, d3] at r1
 obtain ⟨r2, r3⟩ := r1.out (by simp <;> omega) (pb_ok irs)
 rcases r3 with ⟨r3, _⟩ | ⟨_, g', r4, r5⟩
 ·cases r3
 have mu1 := f2.mute0 (.inl (by omega)) (by omega)
 have y1 : (cOut z1.a).2 = [] := by rw [k3, mu1]
 obtain ⟨i1, i2, _, _⟩ := sends_outs m3
 dsimp only at i1 i2
 rw [k3, mu1] at i1
 dsimp only at i1
 have i3 := air_1 m3 rfl y1 r4
 rw [← i2] at r2
 obtain ⟨z3, n1, n2, n3, n4, n5⟩ := step_pi m2 i3 (by omega)
 obtain ⟨_, _, a5, _⟩ := r5.ad
 rw [come_a a5] at n3 n5
 have hwin : (2048 : Int) - (2049 + 1 - (if false = true then (1 : Int) else 0) - 2049) = 2047 := by simp
 rw [hwin] at r5
 have hz : ackZ m m (2 * m) (2049 + 1 - 2049) = m + 1 := by
  unfold ackZ minZ
  rw [if_pos (show m < 2 * m by omega)]
  simp
  split <;> split <;> omega
 obtain ⟨u1, u2, u3, u4, u5, _⟩ := f2.ack hp r5 (by omega) (by omega) (by omega) (by rw [hs1.1, hz]; omega)
 obtain ⟨u6, u7⟩ := u5 (fun e => by rw [hs1.2.1] at e; cases e.1)
 rw [hs1.1, hz] at u6
 have e6 : (2049 : Int) + 1 = 2050 := by decide
 rw [e6, show (2050 : Int) + 2047 = 2049 + 2048 by decide] at u6
 rw [e6] at r2
 obtain ⟨L, hL⟩ : ∃ z, z = qEnd s.o := ⟨_, rfl⟩
 have hqc : qEnd (cIn s1 g').o = L := by rw [u1, q1, hqs.1, hL]
 rw [i1] at n3 n5
 obtain ⟨j1, j2⟩ := J3_start (m := m) (L := L) hm (by omega) (by omega)
 obtain ⟨P3, k, z, ms, v1, v2, v3, v4, v5, v6, v7, v8, v9, v10, v11, v12, v13⟩ := mflow_go (m := m) (ℓ := 2 * m) (L := L) (D := 2049) (U := 2050) (w := m + 1) (J := J3 m (2 * m) L) (J3_keeps (by omega) (by omega)) (pi_gh n5) n3 rfl (by omega) hR u6 (u3.trans hs1.2.1) (u4.trans hs1.1) r2 (by dsimp only; rw [hqc, if_pos (by omega)]) (by omega) (by dsimp only; rw [hqc]; omega) j1 j2
 obtain ⟨w1, w2⟩ := qx_keep v2
 obtain ⟨w3, w4⟩ := sends_keep n3
 have Pz : PI iss irs N (t + 1 + 1 + 1 + k) z := pi_un v3 (w1.trans w3) ((w2.trans w4).trans n5.br)
 rw [show qEnd (⟨cIn s1 g', z2.b, { z2.p with air := [] }⟩ : KPr).a.o = L from hqc] at v7
 have e9 := v11.idle v7
 refine rnd_mk hP (by omega) (k + 1 + 1) k1 (by omega) ⟨g, [], z2, k5, m1, ⟨g', [], z3, i3, n1, v2⟩⟩ Pz ⟨by omega, by omega⟩ v6 v12 (by omega) (by rw [e9]) ?_ v11.st0.1 (by rw [e9]; exact v11.cl0 v9) (by rw [e9]; exact v11.st0.1)
 intro y y1 y2 y3 y4 y5 y6
 rw [e9] at y2
 dsimp only at y2
 obtain ⟨q', hh, _, _, hrd, _⟩ := y4.hq
 have hya : y.a.st ≠ 0 ∧ y.a.o.cl = false ∧ qEnd y.a.o = L := by rw [y2]; exact ⟨v11.st0.1, v11.cl0 v9, v7⟩
 obtain ⟨g1, _⟩ := got_is y1 hya.1 hya.2.1 hh
 by_cases hc : 2049 + min7 (L - 2049) = L
 ·exact .inl (g1.2 (by rw [hrd, hya.2.2, hc]))
 ·right
  refine ⟨fun e => hc (by have := g1.1 e; rw [hrd, hya.2.2] at this; exact this), ?_⟩
  have hm7 : min7 (L - 2049) = 700 := by
   unfold min7 at hc ⊢
   split at hc
   ·rw [if_pos (by assumption)]
   ·omega
  have f9 : FSl (adA iss) (adB irs) y.a q V L L ms.w (2049 + 2048) (2 * m) := by
   rw [y2]; exact v11.of (-1) z.a.meas z.a.wh (by have := v11.plain; rw [← this])
  exact rnd_rest 1 _ y (2049 + min7 (L - 2049)) y1 ⟨by omega, by omega⟩ y3 f9 hya.2.2 (by rw [y2]; exact v9) (by rw [y2]) y4 y5 (by omega) (by omega)
theorem rnd_3 (hP : PI iss irs N t x) (ht : 0 ≤ t ∧ t ≤ 90000) (hair : x.p.air = []) (hxa : x.a = { s with o := { s.o with sent := 2050 } }) (hs : FSl (adA iss) (adB irs) s q V 2049 2049 m 2049 (2 * m)) (hmm : s.mss = m)
  (hq : 2050 ≤ qEnd s.o ∧ qEnd s.o ≤ 4001) (hsh : s.shut = false) (hck : s.clock = 6) (hnw : s.now = 6) (htm : s.tm = ⟨true, 0, 0, 2⟩) (hg : s.gone ≠ 8)
  (hr : FR (adA iss) (adB irs) x.b 2049 V 1401 R W mr false O false false) (hcb : x.b.clock = -1) (hR : ∀ x, R = some x → 2048 - (endZ q - q.rd) = x) : Rnd 4 x := by
 have hv : valZ s.tm.k s.tm.m s.tm.s s.tm.d = 4 := by rw [htm]; decide
 obtain ⟨s', hs'⟩ : ∃ s' : KCn, s' = { s with now := 9 } := ⟨_, rfl⟩
 have f1 : FSl (adA iss) (adB irs) s' q V 2049 2049 m 2049 (2 * m) := by
  rw [hs']; exact hs.of2 s.same s.wat s.wak 9 s.gone s.tm s.clock s.meas s.wh
 have hqs : qEnd s'.o = qEnd s.o ∧ s'.shut = s.shut ∧ s'.clock = s.clock ∧ s'.mss = s.mss ∧ s'.tm = s.tm ∧ s'.gone = s.gone ∧ s'.now = 9 := by rw [hs']; exact ⟨rfl, rfl, rfl, rfl, rfl, rfl, rfl⟩
 have e1 : cTick x.a 3 = { s' with o := { s'.o with sent := 2050 } } := by
  rw [hxa, tick_wait (c := { s with o := { s.o with sent := 2050 } }) hs.st0.1 hs.st9 (by show 0 ≤ s.clock; omega) 3 (by show s.now + 3 - s.clock < valZ s.tm.k s.tm.m s.tm.s s.tm.d; omega) (hs.wtS (by omega) 2050), hs']
  show ({ s with o := _, now := s.now + 3 } : KCn) = _
  rw [hnw]; rfl
 have e2 := f1.mute 2050
 rw [settle_id (c := { s' with o := { s'.o with sent := 2050 } }) f1.st0.1 f1.st9 (f1.wtS (by omega) 2050) (by show 0 ≤ s'.clock; omega)] at e2
 have hcl := f1.cl0 (hqs.2.1.trans hsh)
 refine rnd_still hP (by omega) hair e1 e2 e2 f1.st0.1 hcl hr hcb (by decide) ?_
 intro z k1 k2 k3 k4 k5
 right
 have hm7 : (1401 : Int) + min7 (2049 - 1401) = 2049 := by decide
 rw [hm7] at k4
 have hza : z.a.st ≠ 0 ∧ z.a.o.cl = false ∧ qEnd z.a.o = qEnd s.o := by rw [k2]; exact ⟨f1.st0.1, hcl, hqs.1⟩
 obtain ⟨q', hh, _, _, hrd, _⟩ := k4.hq
 obtain ⟨g1, _⟩ := got_is k1 hza.1 hza.2.1 hh
 refine ⟨fun e => by have := g1.1 e; rw [hrd, hza.2.2] at this; omega, ?_⟩
 exact rnd_4 (s := s') k1 ⟨by omega, by omega⟩ k3 k2 f1 (hqs.2.2.2.1.trans hmm) (by omega) (hqs.2.1.trans hsh) (by omega) (by rw [hqs.2.2.2.2.1, hv]; omega) (by rw [hqs.2.2.2.2.2.1]; exact hg) (by omega) k4 k5 hR
theorem rnd_2 (hP : PI iss irs N t x) (ht : 0 ≤ t ∧ t ≤ 80000) (hair : x.p.air = []) (hs : FSl (adA iss) (adB irs) x.a q V 2049 (2049 + 1) w 2049 ℓ) (hmm : x.a.mss = m)
  (hq : 2050 ≤ qEnd x.a.o ∧ qEnd x.a.o ≤ 4001) (hsh : x.a.shut = false) (hck : x.a.clock = 3) (hnw : x.a.now = 3) (htm : x.a.tm = ⟨true, 0, 0, 1⟩) (hg : x.a.gone = 1)
  (hr : FR (adA iss) (adB irs) x.b 2049 V 701 R W mr false O false false) (hcb : x.b.clock = -1) (hR : ∀ x, R = some x → 2048 - (endZ q - q.rd) = x) : Rnd 5 x := by
 have hv : valZ x.a.tm.k x.a.tm.m x.a.tm.s x.a.tm.d = 2 := by rw [htm]; decide
 obtain ⟨s, e1, f1, h2, h3, h4, h5, h6, h7, h8, h9, h10⟩ := hs.back (by omega) (by omega) 3 (by omega) (by omega) (by omega)
 rw [hmm] at f1 h2
 rw [htm] at h10
 have e2 := f1.mute (2049 + 1)
 rw [settle_id (c := { s with o := { s.o with sent := 2049 + 1 } }) f1.st0.1 f1.st9 (f1.wtS (by omega) (2049 + 1)) (by show 0 ≤ s.clock; omega)] at e2
 have hcl := f1.cl0 (h4.trans hsh)
 refine rnd_still hP (by omega) hair e1 e2 e2 f1.st0.1 hcl hr hcb (by decide) ?_
 intro z k1 k2 k3 k4 k5
 right
 have hm7 : (701 : Int) + min7 (2049 - 701) = 1401 := by decide
 rw [hm7] at k4
 have hza : z.a.st ≠ 0 ∧ z.a.o.cl = false ∧ qEnd z.a.o = qEnd s.o := by rw [k2]; exact ⟨f1.st0.1, hcl, rfl⟩
 obtain ⟨q', hh, _, _, hrd, _⟩ := k4.hq
 obtain ⟨g1, _⟩ := got_is k1 hza.1 hza.2.1 hh
 refine ⟨fun e => by have := g1.1 e; rw [hrd, hza.2.2] at this; omega, ?_⟩
 exact rnd_3 (s := s) k1 ⟨by omega, by omega⟩ k3 k2 f1 h2 (by omega) (h4.trans hsh) (by omega) (by omega) h10 (by omega) k4 k5 hR
theorem rnd_1 (hP : PI iss irs N t x) (ht : 0 ≤ t ∧ t ≤ 70000) (hair : x.p.air = []) (hs : FSl (adA iss) (adB irs) x.a q V 2049 2049 w 2049 ℓ) (hmm : x.a.mss = m)
  (hq : 2050 ≤ qEnd x.a.o ∧ qEnd x.a.o ≤ 4001) (hsh : x.a.shut = false) (hck : x.a.clock = 0) (hnw : x.a.now = 0) (htm : x.a.tm = ⟨true, 0, 0, 0⟩) (hsg : SG x.a)
  (hr : FR (adA iss) (adB irs) x.b 2049 V 1 R W mr false O false false) (hcb : x.b.clock = -1) (hR : ∀ x, R = some x → 2048 - (endZ q - q.rd) = x) : Rnd 6 x := by
 have hp := ad_to iss irs
 have hv : valZ x.a.tm.k x.a.tm.m x.a.tm.s x.a.tm.d = 2 := by rw [htm]; decide
 obtain ⟨b1, b2⟩ := hr.tick hcb 3
 have p1 := tick_pi hP (by omega)
 obtain ⟨s', hs'⟩ : ∃ s' : KCn, s' = { x.a with now := 3, gone := 1, tm := ⟨true, 0, 0, 1⟩, clock := 3 } := ⟨_, rfl⟩
 have f1 : FSl (adA iss) (adB irs) s' q V 2049 2049 w 2049 ℓ := by
  rw [hs']; exact hs.of2 x.a.same x.a.wat x.a.wak 3 1 ⟨true, 0, 0, 1⟩ 3 x.a.meas x.a.wh
 have hqs : qEnd s'.o = qEnd x.a.o ∧ s'.shut = x.a.shut ∧ s'.clock = 3 ∧ s'.mss = x.a.mss ∧ s'.tm = ⟨true, 0, 0, 1⟩ ∧ s'.gone = 1 ∧ s'.now = 3 ∧ s'.same = 0 := by rw [hs']; exact ⟨rfl, rfl, rfl, rfl, rfl, rfl, rfl, hsg.same⟩
 have e1 : cTick x.a 3 = { s' with o := { s'.o with sent := 2049 }, probe := true } := by
  have hse := hs.sent
  have hso : ({ x.a.o with sent := 2049 } : OQ) = x.a.o := by rw [← hse]
  rw [tick_probe hs.st0.1 hs.st9 (by omega) 3 (by omega) (by rw [hsg.gone]; decide) (by omega) (by rw [hs.cur, hs.una]) (hs.wt (.inr (by omega))), hs']
  show _ = ({ x.a with now := 3, gone := 1, tm := ⟨true, 0, 0, 1⟩, clock := 3, o := { x.a.o with sent := 2049 }, probe := true } : KCn)
  rw [hso, hnw, hsg.gone, htm]
  rfl
 obtain ⟨s1, g, o1, f2, d1, d2, d3, e2, q1⟩ := f1.probeS (by omega) (hqs.2.1.trans hsh) hR hp 2049 (.inl rfl) (by omega)
 rw [← e1] at o1
 have hs1 : s1.mss = m ∧ s1.shut = false ∧ s1.clock = 3 ∧ s1.same = 0 ∧ s1.tm = ⟨true, 0, 0, 1⟩ ∧ s1.gone = 1 ∧ s1.now = 3 := by
  rw [e2]
  exact ⟨hqs.2.2.2.1.trans hmm, hqs.2.1.trans hsh, hqs.2.2.1, hqs.2.2.2.2.2.2.2, hqs.2.2.2.2.1, hqs.2.2.2.2.2.1, hqs.2.2.2.2.2.2.1⟩
 obtain ⟨c1, c2⟩ := b2.none (fr_room hr (by omega)) (pb_ok irs)
 obtain ⟨z1, k1, k2, k3, k4, k5, _⟩ := sends_one (g := g) p1 (by omega) hair (.inl ⟨by dsimp only; rw [o1], c2⟩)
 dsimp only at k3 k4
 rw [o1] at k3
 dsimp only at k3
 rw [← k4] at c1
 obtain ⟨z2, m1, m2, m3, _, _⟩ := step_pi k2 k5 (by omega)
 obtain ⟨_, _, a3, a4⟩ := d1.ad
 rw [come_b a3 a4] at m3
 obtain ⟨r1, _⟩ := c1.refuse hp d1 (by omega) (by omega)
 obtain ⟨r2, r3⟩ := r1.out (by simp) (pb_ok irs)
 rcases r3 with ⟨r3, _⟩ | ⟨_, g', r4, r5⟩
 ·cases r3
 have mu1 := f2.mute0 (.inl (by omega)) (by omega)
 have y1 : (cOut z1.a).2 = [] := by rw [k3, mu1]
 obtain ⟨i1, i2, _, _⟩ := sends_outs m3
 dsimp only at i1 i2
 rw [k3, mu1] at i1
 dsimp only at i1
 have i3 := air_1 m3 rfl y1 r4
 rw [← i2] at r2
 obtain ⟨z3, n1, n2, n3, n4, n5⟩ := step_pi m2 i3 (by omega)
 obtain ⟨_, _, a5, _⟩ := r5.ad
 rw [come_a a5] at n3 n5
 have hwin : (2048 : Int) - (2049 - (if false = true then (1 : Int) else 0) - 1) = 0 := by simp
 rw [hwin] at r5
 obtain ⟨X, Y, e5⟩ := f2.more hp r5 hs1.2.1 (by omega) (by omega)
 rw [i1, e5] at n3 n5
 obtain ⟨s2, hs2⟩ : ∃ s2 : KCn, s2 = { s1 with same := s1.same + 1, wat := X, wak := Y } := ⟨_, rfl⟩
 rw [← hs2] at n3 n5
 have f3 : FSl (adA iss) (adB irs) s2 q V 2049 (2049 + 1) w 2049 ℓ := by
  rw [hs2]; exact f2.of2 (s1.same + 1) X Y s1.now s1.gone s1.tm s1.clock s1.meas s1.wh
 have hs2' : s2.mss = m ∧ s2.shut = false ∧ s2.clock = 3 ∧ s2.tm = ⟨true, 0, 0, 1⟩ ∧ s2.gone = 1 ∧ s2.now = 3 ∧ qEnd s2.o = qEnd x.a.o := by
  rw [hs2]
  exact ⟨hs1.1, hs1.2.1, hs1.2.2.1, hs1.2.2.2.2.1, hs1.2.2.2.2.2.1, hs1.2.2.2.2.2.2, q1.trans hqs.1⟩
 have mu2 := f3.mute0 (.inl (by omega)) (by omega)
 have hr2 : FR (adA iss) (adB irs) z2.b 2049 V 1 R W mr false O false false := r2
 obtain ⟨v1, v2⟩ := hr2.none (by simp) (pb_ok irs)
 have y2 : (cOut s2).2 = [] := by rw [mu2]
 obtain ⟨l1, l2, _, _⟩ := sends_outs n3
 dsimp only at l1 l2
 rw [mu2] at l1
 dsimp only at l1
 have l3 := air_0 n3 rfl y2 v2
 rw [← l2] at v1
 rw [← l1] at f3 hs2' mu2
 refine rnd_mk hP (by omega) (1 + 1) k1 (by decide) ⟨g, [], z2, k5, m1, ⟨g', [], z3, i3, n1, ⟨rfl, l3⟩⟩⟩ n2 ⟨by omega, by omega⟩ l3 v1 (by decide) (by rw [mu2]) ?_ f3.st0.1 (by rw [mu2]; exact f3.cl0 hs2'.2.1) (by rw [mu2]; exact f3.st0.1)
 intro y y1 y2 y3 y4 y5 y6
 rw [mu2] at y2
 dsimp only at y2
 right
 have hm7 : (1 : Int) + min7 (2049 - 1) = 701 := by decide
 rw [hm7] at y4
 rw [← y2] at f3 hs2'
 obtain ⟨q', hh, _, _, hrd, _⟩ := y4.hq
 obtain ⟨g1, _⟩ := got_is y1 f3.st0.1 (f3.cl0 hs2'.2.1) hh
 refine ⟨fun e => by have := g1.1 e; rw [hrd, hs2'.2.2.2.2.2.2] at this; omega, ?_⟩
 exact rnd_2 y1 ⟨by omega, by omega⟩ y3 f3 hs2'.1 (by omega) hs2'.2.1 hs2'.2.2.1 hs2'.2.2.2.2.2.1 hs2'.2.2.2.1 hs2'.2.2.2.2.1 y4 y5 hR
end
structure HalfAll (y : KPr) (H T : ByteArray) (x3 x4 x6 x7 x11 x12 : KPr) : Prop where
 wn : (cWrite y.a H).2.1 = H.size
 we : (cWrite y.a H).2.2 = 0
 c1 : ∃ t : Int, t ≤ 1000000000000 ∧ CI (cWrite y.a H).1 t
 ce : (cClose (cWrite y.a H).1).2 = 0
 s3 : SOk ⟨(cClose (cWrite y.a H).1).1, y.b, y.p⟩ x3
 q4 : ∃ k : Nat, k ≤ 9001 ∧ Qx k x3 x4
 c4 : ∃ t : Int, t ≤ 1000000000000 ∧ CI x4.b t
 wn2 : (cWrite x4.b T).2.1 = T.size
 we2 : (cWrite x4.b T).2.2 = 0
 s6 : SOk ⟨x4.a, (cWrite x4.b T).1, x4.p⟩ x6
 q7 : ∃ k : Nat, k ≤ 9001 ∧ Qx k x6 x7
 c7b : ∃ t : Int, t ≤ 1000000000000 ∧ CI x7.b t
 rb : (cRead x7.b 5000).2 = (H, decide (H.size = 0), 0)
 c7a : ∃ t : Int, t ≤ 1000000000000 ∧ CI x7.a t
 ra : (cRead x7.a 5000).2 = (T, false, if T.size = 0 then 14 else 0)
 st9a : (cRead x7.a 5000).1.st = 5
 st9b : (cRead x7.b 5000).1.st = 6
 c9 : ∃ t : Int, t ≤ 1000000000000 ∧ CI (cRead x7.b 5000).1 t
 ce2 : (cClose (cRead x7.b 5000).1).2 = 0
 s11 : SOk ⟨(cRead x7.a 5000).1, (cClose (cRead x7.b 5000).1).1, x7.p⟩ x11
 q12 : ∃ k : Nat, k ≤ 9001 ∧ Qx k x11 x12
 st12b : x12.b.st = 0
 wy12b : x12.b.why = 0
 st12a : x12.a.st = 9
 c12 : ∃ t : Int, t ≤ 1000000000000 ∧ CI x12.a t
 n12 : x12.a.now ≤ 100000000000
 ts : (cTick x12.a 20).st = 0
 tw : (cTick x12.a 20).why = 0
def Wrs (T : ByteArray) : Nat → KPr → KPr → Prop
 | 0, x, z => x = z
 | n + 1, x, z => ∃ (x1 x2 : KPr) (t : Int) (k : Nat), t ≤ 1000000000 ∧ CI x.a t ∧ (cWrite x.a T).2.1 = T.size ∧ (cWrite x.a T).2.2 = 0 ∧ SOk ⟨(cWrite x.a T).1, x.b, { x.p with w0 := x.p.w0 ++ T }⟩ x1 ∧ k ≤ 9001 ∧ Qx k x1 x2 ∧ x.p.w0.size ≤ 1048576 ∧ Wrs T n x2 z
section
variable {iss irs : Int} {N : Nat} {t : Int} {x : KPr} {q : IQ} {V : Int} {R : Option Int} {W : KWd} {mr : Int} {O : OQ} {U m : Int}
structure WS (iss irs : Int) (q : IQ) (V : Int) (R : Option Int) (W : KWd) (mr : Int) (O : OQ) (m U : Int) (x : KPr) : Prop where
 air : x.p.air = []
 fs : FSl (adA iss) (adB irs) x.a q V U U (2 * m + U) 2049 65535
 sh : x.a.shut = false
 mm : x.a.mss = m
 fr : FR (adA iss) (adB irs) x.b U V 1 R W mr false O false false
 tz : TZ x.a
 sg : SG x.a
 now : x.a.now = 0
 sa : Stl x.a
 sb : Stl x.b
theorem write_go (hP : PI iss irs N t x) (ht : 0 ≤ t ∧ t ≤ 50000) (h : WS iss irs q V R W mr O m U x) (hq : qEnd x.a.o = U) (hU : U ≤ 2001) (hm : 8 ≤ m ∧ m ≤ 1000) (T : ByteArray) (hT : T.size ≤ 2000) (hN : N + T.size ≤ 1048576) (hR : ∀ x, R = some x → 2048 - (endZ q - q.rd) = x) :
  ∃ (x1 x2 : KPr) (k : Nat), (cWrite x.a T).2.1 = T.size ∧ (cWrite x.a T).2.2 = 0 ∧ SOk ⟨(cWrite x.a T).1, x.b, { x.p with w0 := x.p.w0 ++ T }⟩ x1 ∧ k ≤ 8100 ∧ Qx k x1 x2 ∧
   PI iss irs (N + T.size) (t + 1 + k) x2 ∧ qEnd x2.a.o = U + T.size ∧ WS iss irs q V R W mr O m (if U + T.size < 2049 then U + T.size else 2049) x2 := by
 obtain ⟨y, w1, w2, w3, w4, f1⟩ := write_all h.fs hq h.sh T (by omega) (by omega)
 have hu := h.fs.u1
 have hP1 := hP.write0 T hN
 have e : T.extract 0 (cWrite x.a T).2.1.toNat = T := by rw [w2, Int.toNat_natCast]; exact ByteArray.extract_zero_size
 rw [e] at hP1
 obtain ⟨z, so, Pz, hs, hk⟩ := sok_same hP1 (by omega)
 obtain ⟨L, hL⟩ : ∃ L : Int, L = (if U + T.size < 2049 then U + T.size else 2049) := ⟨_, rfl⟩
 have hLb : U ≤ L ∧ L ≤ 2049 := by rw [hL]; split <;> omega
 have hsh : (cWrite x.a T).1.shut = false := by rw [w1]; exact h.sh
 have hmm : (cWrite x.a T).1.mss = m := by rw [w1]; exact h.mm
 have hnw : (cWrite x.a T).1.now = 0 := by rw [w1]; exact h.now
 have hsg : SG (cWrite x.a T).1 := by rw [w1]; exact ⟨h.sg.same, h.sg.gone⟩
 have htz := h.tz.write T
 have j1 := J1_start (m := m) (L := L) (U := U) hm (by omega) hu hLb.1
 rw [show (2049 : Int) = 1 + 2048 by decide] at f1
 obtain ⟨_, k, v, ms, v1, v2, v3, v4, v5, v6, v7, v8, v9, v10, v11, v12, v13, v14, v15, v16⟩ := mflow_go (m := m) (ℓ := 65535) (L := L) (D := 1) (U := U) (w := 2 * m + U) (J := J1 m L) (J1_keeps hm (by omega)) (pi_gh hP1) hs h.air (by omega) hR f1 hsh hmm h.fr (by dsimp only; rw [w4, hL]; rfl) hLb.1 (by dsimp only; rw [w4]; omega) j1 (j1.len hm (by omega))
 obtain ⟨q1, q2⟩ := qx_keep v2
 have Pv : PI iss irs (N + T.size) (t + 1 + k) v := pi_un v3 (q1.trans hk) (q2.trans Pz.br)
 rw [v4.w, v5] at v11
 rw [show (1 : Int) + 2048 = 2049 by decide] at v11
 obtain ⟨s1, s2⟩ := stl_qx v2 (stl_sends hs)
 refine ⟨z, v, k, w2, w3, so, v1, v2, Pv, by rw [v7]; exact w4, ?_⟩
 rw [← hL]
 exact ⟨v6, v11, v9, v10, v12, v13 htz, v16 hsg, by rw [v14]; exact hnw, s1, s2⟩
end
theorem stops_all {iss irs ma mb : Int} {y : KPr} (hi : 0 ≤ iss ∧ iss ≤ 4294967295) (hj : 0 ≤ irs ∧ irs ≤ 4294967295) (hA : 8 ≤ ma ∧ ma ≤ 1000) (hB : 8 ≤ mb ∧ mb ≤ 1000) (T : ByteArray) (hT : T.size ≤ 2000)
  (hg : gh gh0 y = y) (hP : PI iss irs 0 2 (gh gh0 y)) (ha : y.a = cE 1 40000 2 80 iss irs ma (cMss ma mb) 0 0 0 false) (hb : y.b = cE 2 80 1 40000 irs iss mb (cMss mb ma) 1 1 0 false) (hair : y.p.air = []) : ∃ z, Wrs T 2 y z ∧ Rnd 6 z := by
 have hma := cMss_in (m := mb) hA
 have hmb := cMss_in (m := ma) hB
 rw [hg] at hP
 obtain ⟨m, hm⟩ : ∃ m, m = cMss ma mb := ⟨_, rfl⟩
 rw [← hm] at hma ha
 have f0 : FS (adA iss) (adB irs) y.a newIQ 1 1 1 (2 * m + 1) 2049 :=
  fs_e (la := 1) (lp := 40000) (ra := 2) (rp := 80) (iss := iss) (irs := irs) (own := ma) (wat := 0) (wak := 0) (now := 0) (st := 3) (o := oq0) (sh := false) rfl rfl hma (-1) ha ok_e rfl rfl rfl rfl (by decide) (.inl ⟨rfl, rfl⟩)
 have r0 : FR (adA iss) (adB irs) y.b 1 1 1 (some 2048) ⟨cMss mb ma, 2 * cMss mb ma + 1, 65535⟩ (cMss mb ma) false oq0 false false := by
  rw [hb]; exact fr_e rfl rfl
 have hR : ∀ x, (some (2048 : Int)) = some x → 2048 - (endZ newIQ - newIQ.rd) = x := fun x e => by cases e; decide
 have h0 : WS iss irs newIQ 1 (some 2048) ⟨cMss mb ma, 2 * cMss mb ma + 1, 65535⟩ (cMss mb ma) oq0 m 1 y := by
  refine ⟨hair, f0, by rw [ha]; rfl, by rw [ha]; rfl, r0, ⟨by rw [ha]; rfl, fun h => by rw [ha] at h; exact absurd h (by decide : ¬ (0 : Int) < 0)⟩, ⟨by rw [ha]; rfl, by rw [ha]; rfl⟩, by rw [ha]; rfl, ?_, ?_⟩
  ·intro _
   rw [settle_off (.inr (.inr (f0.off (by rw [ha]; rfl)))), ha]; rfl
  ·intro _
   rw [settle_off (.inr (.inr r0.rest)), hb]; rfl
 have hq0 : qEnd y.a.o = 1 := by rw [ha]; rfl
 obtain ⟨x1, x2, k1, a1, a2, a3, a4, a5, P2, a7, h2⟩ := write_go hP ⟨by decide, by decide⟩ h0 hq0 (by decide) hma T hT (by omega) hR
 have hL1 : (if 1 + (T.size : Int) < 2049 then 1 + (T.size : Int) else 2049) = 1 + T.size := by split <;> omega
 rw [hL1] at h2
 obtain ⟨x3, x4, k2, b1, b2, b3, b4, b5, P4, b7, h4⟩ := write_go P2 ⟨by omega, by omega⟩ h2 a7 (by omega) hma T hT (by omega) hR
 have hsz0 : y.p.w0.size ≤ 1048576 := by obtain ⟨_, _, hx⟩ := hP.h; have h1 := PH.sz hx; omega
 have hsz2 : x2.p.w0.size ≤ 1048576 := by obtain ⟨_, _, hx⟩ := P2.h; have h1 := PH.sz hx; omega
 refine ⟨x4, ⟨x1, x2, 2, k1, by decide, hP.ciA, a1, a2, a3, by omega, a5, hsz0, ⟨x3, x4, 2 + 1 + k1, k2, by omega, P2.ciA, b1, b2, b3, by omega, b5, hsz2, rfl⟩⟩, ?_⟩
 have hck : x4.b.clock = -1 := h4.sb.off h4.fr.st0.1 h4.fr.rest
 by_cases hc : 1 + (T.size : Int) + T.size < 2049
 ·rw [if_pos hc] at h4
  have hca : x4.a.clock = -1 := h4.sa.off h4.fs.st0.1 (h4.fs.off b7)
  exact rnd_rest 5 _ x4 1 P4 ⟨by omega, by omega⟩ h4.air h4.fs b7 h4.sh hca h4.fr hck (by omega) (by omega)
 ·rw [if_neg hc] at h4
  by_cases hQ : 1 + (T.size : Int) + T.size = 2049
  ·have hca : x4.a.clock = -1 := h4.sa.off h4.fs.st0.1 (h4.fs.off (by omega))
   exact rnd_rest 5 _ x4 1 P4 ⟨by omega, by omega⟩ h4.air h4.fs (by omega) h4.sh hca h4.fr hck (by omega) (by omega)
  ·have hca : x4.a.clock = 0 := by
    have h1 := h4.sa.on h4.fs.st0.1 h4.fs.st9 (h4.fs.wt (.inr (by omega))) (by rw [h4.now]; decide)
    have h2 := P4.ciA.k
    have h3 := h4.now
    omega
   exact rnd_1 P4 ⟨by omega, by omega⟩ h4.air h4.fs h4.mm (by omega) h4.sh hca h4.now h4.tz.tm h4.sg h4.fr hck hR
end Go.Proofs.Ytfpifahkpkjfgaa
