/- What ConnBreaks needs, a part: CnFe, CnFf. -/
import Derived.Test.YtfpifahkpkjfgaaMZ
import Derived.Test.YtfpifahkpkjfgaaMConnBreaks36
import Derived.Test.YtfpifahkpkjfgaaMConnBreaks41
/- conn: bytes that flow one way in a pair (plain). -/
namespace Go.Proofs.Ytfpifahkpkjfgaa
open Go.RowKit Go.Lib
set_option linter.unusedVariables false
set_option linter.unusedSimpArgs false
/-- what a pair does not tell of itself: what was written, read, closed -/
structure KGh where
 T0 : ByteArray
 T1 : ByteArray
 G0 : ByteArray
 G1 : ByteArray
 s0 : Bool
 s1 : Bool
def ghP (h : KGh) (p : KPa) : KPa := { p with w0 := h.T0, w1 := h.T1, g0 := h.G0, g1 := h.G1, s0 := h.s0, s1 := h.s1, br := false }
def gh (h : KGh) (x : KPr) : KPr := ⟨x.a, x.b, ghP h x.p⟩
theorem gh_step (h : KGh) (i : Bool) (p : KPa) (g : KSeg) : sdStep i (ghP h p) g = ghP h (sdStep i p g) := by
 cases i with
 | true => rw [stepT, stepT]; rfl
 | false => rw [stepF, stepF]; rfl
theorem gh_ok (h : KGh) (i : Bool) (p : KPa) (g : KSeg) : sdOk i (ghP h p) g = sdOk i p g := by
 cases i <;> rfl
theorem gh_list (h : KGh) (i : Bool) : ∀ (l : List KSeg) (p : KPa), sdList i (ghP h p) l = (sdList i p l).map (ghP h)
  | [], p => rfl
  | g :: l, p => by
    unfold sdList
    rw [gh_ok, gh_step]
    by_cases hc : sdOk i p g = true
    · rw [if_pos hc, if_pos hc]; exact gh_list h i l _
    · rw [if_neg hc, if_neg hc]; rfl
theorem gh_sends (h : KGh) (x : KPr) : sends (gh h x) = (sends x).map (gh h) := by
  unfold sends
  show (match sdList true (ghP h x.p) (cOut x.a).2 with | none => none | some p1 => match sdList false p1 (cOut x.b).2 with | none => none | some p2 => some (⟨(cOut x.a).1, (cOut x.b).1, p2⟩ : KPr)) = _
  rw [gh_list]
  cases e1 : sdList true x.p (cOut x.a).2 with
  | none => rfl
  | some p1 =>
    show (match sdList false (ghP h p1) (cOut x.b).2 with | none => none | some p2 => some (⟨(cOut x.a).1, (cOut x.b).1, p2⟩ : KPr)) = _
    rw [gh_list]
    cases e2 : sdList false p1 (cOut x.b).2 with
    | none =>
      simp only [Option.map_none]
      rw [e2]
      rfl
    | some p2 =>
      simp only [Option.map_some]
      rw [e2]
      rfl
theorem sd_air (i : Bool) : ∀ (l : List KSeg) (p q : KPa), sdList i p l = some q → q.air = l.foldl airP p.air ∧ q.br = p.br
  | [], p, q, h => by
    have e : p = q := by simpa [sdList] using h
    subst e
    exact ⟨rfl, rfl⟩
  | g :: l, p, q, h => by
    unfold sdList at h
    split at h
    · obtain ⟨h1, h2⟩ := sd_air i l _ q h
      cases i with
      | true => rw [stepT] at h1 h2; exact ⟨h1, h2⟩
      | false => rw [stepF] at h1 h2; exact ⟨h1, h2⟩
    · cases h
theorem sends_outs {x y : KPr} (h : sends x = some y) : y.a = (cOut x.a).1 ∧ y.b = (cOut x.b).1 ∧ y.p.air = ((cOut x.b).2).foldl airP (((cOut x.a).2).foldl airP x.p.air) ∧ y.p.br = x.p.br := by
  unfold sends at h
  cases e1 : sdList true x.p (cOut x.a).2 with
  | none => rw [e1] at h; cases h
  | some p1 =>
    rw [e1] at h
    dsimp only at h
    cases e2 : sdList false p1 (cOut x.b).2 with
    | none => rw [e2] at h; cases h
    | some p2 =>
      rw [e2] at h
      injection h with h
      subst h
      obtain ⟨h1, h2⟩ := sd_air true _ _ _ e1
      obtain ⟨h3, h4⟩ := sd_air false _ _ _ e2
      exact ⟨rfl, rfl, by rw [← h1]; exact h3, h4.trans h2⟩
theorem airP_app : ∀ (ds l : List KSeg), (l ++ ds).length ≤ 200 → ds.foldl airP l = l ++ ds
  | [], l, _ => (List.append_nil l).symm
  | g :: ds, l, h => by
    have e : airP l g = l ++ [g] := by
      unfold airP
      rw [if_pos]
      rw [List.length_append, List.length_cons] at h
      omega
    rw [List.foldl_cons, e, airP_app ds (l ++ [g]) (by rw [List.append_assoc]; exact h), List.append_assoc]
    rfl
theorem come_l (x : KPr) (g : KSeg) (l : List KSeg) : come ⟨x.a, x.b, { x.p with air := l }⟩ g = ⟨(come x g).a, (come x g).b, { (come x g).p with air := l }⟩ := by
 unfold come; split <;> rfl
theorem come_gh (h : KGh) (x : KPr) (g : KSeg) : come (gh h x) g = gh h (come x g) := by
 unfold come
 show (if g.ta = 2 ∧ g.tp = 80 then _ else _) = _
 split <;> rfl
section
variable {iss irs : Int} {N : Nat} {t : Int} {h : KGh} {x : KPr} {g : KSeg} {l : List KSeg}
theorem PI.ciA {x : KPr} (h : PI iss irs N t x) : CI x.a t := by obtain ⟨_, _, hx⟩ := h.h; exact PH.ca hx
theorem PI.ciB {x : KPr} (h : PI iss irs N t x) : CI x.b t := by obtain ⟨_, _, hx⟩ := h.h; exact PH.cb hx
/-- one goes out of the air -/
theorem qok_pi (hP : PI iss irs N t (gh h x)) (hair : x.p.air = g :: l) (ht : t ≤ 100000000) :
  ∃ z, QOk x g l z ∧ PI iss irs N (t + 1) (gh h z) ∧ sends (come ⟨x.a, x.b, { x.p with air := l }⟩ g) = some z := by
 have hg : g ∈ (gh h x).p.air := by show g ∈ x.p.air; rw [hair]; exact List.mem_cons_self ..
 have h1 := hP.come hg (by omega)
 have hlen := hP.len
 have hlx : ((gh h x).p.air.length : Int) = l.length + 1 := by show (x.p.air.length : Int) = _; rw [hair]; rfl
 rw [hlx] at hlen
 have hcp : (come (gh h x) g).p = (gh h x).p := by unfold come; split <;> rfl
 have h2 := h1.few (l := l) (fun y hy => by rw [hcp]; show y ∈ x.p.air; rw [hair]; exact List.mem_cons_of_mem _ hy) (by omega)
 have e2 : (⟨(come (gh h x) g).a, (come (gh h x) g).b, { (come (gh h x) g).p with air := l }⟩ : KPr) = gh h (come ⟨x.a, x.b, { x.p with air := l }⟩ g) := by
  rw [come_gh, come_l x g l]; rfl
 rw [e2] at h2
 obtain ⟨y, hy, hPy, hsa, hsb⟩ := h2.sends
 rw [gh_sends] at hy
 obtain ⟨z, hz, rfl⟩ := Option.map_eq_some_iff.1 hy
 have hsg : SegOk g := by obtain ⟨_, _, hx⟩ := hP.h; exact PH.aok hx g hg
 have hok := h2.ok
 refine ⟨z, ⟨t + 1, by omega, hP.ciA.mono (by omega), hP.ciB.mono (by omega), hsg, h2.ciA, h2.ciB, ⟨hok.e0, hok.e1⟩, ?_, hz, hsa, hsb⟩, hPy, hz⟩
 have : (come ⟨x.a, x.b, { x.p with air := l }⟩ g).p.air = l := by rw [come_l x g l]
 rw [this]
 omega
def adA (iss : Int) : KAd := ⟨1, 40000, 2, 80, iss⟩
def adB (irs : Int) : KAd := ⟨2, 80, 1, 40000, irs⟩
theorem ad_to (iss irs : Int) : AdTo (adA iss) (adB irs) := ⟨rfl, rfl, rfl, rfl, (by decide : (0 : Int) < 40000 ∧ (40000 : Int) ≤ 65535), (by decide : (0 : Int) < 80 ∧ (80 : Int) ≤ 65535), (by decide : (0 : Int) ≤ 1 ∧ (1 : Int) ≤ 4294967295), (by decide : (0 : Int) ≤ 2 ∧ (2 : Int) ≤ 4294967295)⟩
theorem ad_from (iss irs : Int) : AdTo (adB irs) (adA iss) := ⟨rfl, rfl, rfl, rfl, (by decide : (0 : Int) < 80 ∧ (80 : Int) ≤ 65535), (by decide : (0 : Int) < 40000 ∧ (40000 : Int) ≤ 65535), (by decide : (0 : Int) ≤ 2 ∧ (2 : Int) ≤ 4294967295), (by decide : (0 : Int) ≤ 1 ∧ (1 : Int) ≤ 4294967295)⟩
/-- who sends, who receives -/
def sdC (d : Bool) (x : KPr) : KCn := if d then x.a else x.b
def FP (d : Bool) (iss irs : Int) (q : IQ) (V D : Int) (R : Option Int) (W : KWd) (mr : Int) (x : KPr) : Prop :=
 if d then FI (adA iss) (adB irs) q V D R W mr x.a x.b x.p.air else FI (adB irs) (adA iss) q V D R W mr x.b x.a x.p.air
/-- what stays of the sender -/
def Kep (s s' : KCn) : Prop := qEnd s'.o = qEnd s.o ∧ s'.shut = s.shut ∧ (s'.st = s.st ∨ (s.shut = true ∧ (s.st = 4 ∧ s'.st = 5 ∨ s.st = 8 ∧ s'.st = 0)))
theorem flow_all (d : Bool) {q : IQ} {V D : Int} {R : Option Int} {W : KWd} {mr : Int} : ∀ (n : Nat) (t : Int) (x : KPr), PI iss irs N t (gh h x) → FP d iss irs q V D R W mr x → muF (sdC d x) x.p.air ≤ n → t + n ≤ 100000000 →
    ∃ (k : Nat) (y : KPr), k ≤ n ∧ Qx k x y ∧ PI iss irs N (t + k) (gh h y) ∧ FP d iss irs q V D R W mr y ∧ y.p.air = [] ∧ Kep (sdC d x) (sdC d y) := by
  intro n
  induction n with
  | zero =>
    intro t x hP hF hm ht
    have ha : x.p.air = [] := by
      cases hx : x.p.air with
      | nil => rfl
      | cons g l =>
        rw [hx] at hm
        unfold muF wtA sgW at hm
        split at hm <;> omega
    exact ⟨0, x, Nat.le_refl 0, ⟨rfl, ha⟩, by simpa using hP, hF, ha, rfl, rfl, .inl rfl⟩
  | succ n ih =>
    intro t x hP hF hm ht
    cases hx : x.p.air with
    | nil => exact ⟨0, x, Nat.zero_le _, ⟨rfl, hx⟩, by simpa using hP, hF, hx, rfl, rfl, .inl rfl⟩
    | cons g l =>
      obtain ⟨z, hq, hPz, hz⟩ := qok_pi hP hx (by omega)
      obtain ⟨z1, z2, z3, z4⟩ := sends_outs hz
      have hsg : SegOk g := by obtain ⟨_, _, _, _, h5, _⟩ := hq; exact h5
      have hca := hP.ciA
      have hcb := hP.ciB
      have key : FP d iss irs q V D R W mr z ∧ muF (sdC d z) z.p.air < muF (sdC d x) x.p.air ∧ Kep (sdC d x) (sdC d z) ∧ ((sdC d x).shut = true → (sdC d x).st = 4 ∨ (sdC d x).st = 8 ∨ True) := by
        cases d with
        | true =>
          have hF' : FI (adA iss) (adB irs) q V D R W mr x.a x.b x.p.air := hF
          rw [hx] at hF'
          rcases hF' with ⟨U, C, M, w, o, hF'⟩ | ⟨_, _, hF'⟩
          · rcases hF'.step (ad_to iss irs) (hca.cok (by omega)) ((hca.in_ (by omega) g hsg).1.cok (by omega)) with ⟨⟨g1, g2, g3, g4, g5, g6⟩, g7, g8, g9⟩ | ⟨⟨g1, g2, g3, g4, g5, g6⟩, g7, g8, g9⟩
            · have hc : come ⟨x.a, x.b, { x.p with air := l }⟩ g = ⟨x.a, cIn x.b g, { x.p with air := l }⟩ := by unfold come; rw [if_pos ⟨g1, g2⟩]
              rw [hc] at z1 z2 z3
              dsimp only at z1 z2 z3
              rw [g3, List.foldl_nil, airP_app _ _ (by omega)] at z3
              refine ⟨?_, ?_, ?_, fun _ => .inr (.inr trivial)⟩
              · show FI _ _ _ _ _ _ _ _ z.a z.b z.p.air
                rw [z1, z2, z3]; exact g4
              · show muF z.a z.p.air < muF x.a x.p.air
                rw [z1, z3, hx]; exact g5
              · show Kep x.a z.a
                rw [z1]; exact ⟨g7, g8, .inl g9⟩
            · have hc : come ⟨x.a, x.b, { x.p with air := l }⟩ g = ⟨cIn x.a g, x.b, { x.p with air := l }⟩ := by
                unfold come; rw [if_neg (fun e => by have h1 := g1.symm.trans e.1; exact absurd h1 (show ¬ (1 : Int) = 2 by decide))]
              rw [hc] at z1 z2 z3
              dsimp only at z1 z2 z3
              rw [g3, List.foldl_nil, airP_app _ _ (by omega)] at z3
              refine ⟨?_, ?_, ?_, fun _ => .inr (.inr trivial)⟩
              · show FI _ _ _ _ _ _ _ _ z.a z.b z.p.air
                rw [z1, z2, z3]; exact g4
              · show muF z.a z.p.air < muF x.a x.p.air
                rw [z1, z3, hx]; exact g5
              · show Kep x.a z.a
                rw [z1]; exact ⟨g7, g8, g9⟩
          · cases hF'
        | false =>
          have hF' : FI (adB irs) (adA iss) q V D R W mr x.b x.a x.p.air := hF
          rw [hx] at hF'
          rcases hF' with ⟨U, C, M, w, o, hF'⟩ | ⟨_, _, hF'⟩
          · rcases hF'.step (ad_from iss irs) (hcb.cok (by omega)) ((hcb.in_ (by omega) g hsg).1.cok (by omega)) with ⟨⟨g1, g2, g3, g4, g5, g6⟩, g7, g8, g9⟩ | ⟨⟨g1, g2, g3, g4, g5, g6⟩, g7, g8, g9⟩
            · have hc : come ⟨x.a, x.b, { x.p with air := l }⟩ g = ⟨cIn x.a g, x.b, { x.p with air := l }⟩ := by
                unfold come; rw [if_neg (fun e => by have h1 := g1.symm.trans e.1; exact absurd h1 (show ¬ (1 : Int) = 2 by decide))]
              rw [hc] at z1 z2 z3
              dsimp only at z1 z2 z3
              rw [g3, List.foldl_nil, airP_app _ _ (by omega)] at z3
              refine ⟨?_, ?_, ?_, fun _ => .inr (.inr trivial)⟩
              · show FI _ _ _ _ _ _ _ _ z.b z.a z.p.air
                rw [z1, z2, z3]; exact g4
              · show muF z.b z.p.air < muF x.b x.p.air
                rw [z2, z3, hx]; exact g5
              · show Kep x.b z.b
                rw [z2]; exact ⟨g7, g8, .inl g9⟩
            · have hc : come ⟨x.a, x.b, { x.p with air := l }⟩ g = ⟨x.a, cIn x.b g, { x.p with air := l }⟩ := by unfold come; rw [if_pos ⟨g1, g2⟩]
              rw [hc] at z1 z2 z3
              dsimp only at z1 z2 z3
              rw [g3, List.foldl_nil, airP_app _ _ (by omega)] at z3
              refine ⟨?_, ?_, ?_, fun _ => .inr (.inr trivial)⟩
              · show FI _ _ _ _ _ _ _ _ z.b z.a z.p.air
                rw [z1, z2, z3]; exact g4
              · show muF z.b z.p.air < muF x.b x.p.air
                rw [z2, z3, hx]; exact g5
              · show Kep x.b z.b
                rw [z2]; exact ⟨g7, g8, g9⟩
          · cases hF'
      obtain ⟨k1, k2, k3, _⟩ := key
      obtain ⟨k, y, j1, j2, j3, j4, j5, j6⟩ := ih (t + 1) z hPz k1 (by omega) (by omega)
      refine ⟨k + 1, y, by omega, ⟨g, l, z, hx, hq, j2⟩, by rw [show t + ((k + 1 : Nat) : Int) = t + 1 + k by omega]; exact j3, j4, j5, ?_⟩
      obtain ⟨a1, a2, a3⟩ := k3
      obtain ⟨b1, b2, b3⟩ := j6
      refine ⟨b1.trans a1, b2.trans a2, ?_⟩
      rcases a3 with a3 | ⟨a3, a4⟩
      · rw [a3, a2] at b3; exact b3
      · rcases b3 with b3 | ⟨b3, b4⟩
        · right; exact ⟨a3, by rw [b3]; exact a4⟩
        · omega
end
end Go.Proofs.Ytfpifahkpkjfgaa
/- conn: two that have met; the start of a flow (plain). -/
namespace Go.Proofs.Ytfpifahkpkjfgaa
open Go.RowKit Go.Lib
set_option linter.unusedVariables false
set_option linter.unusedSimpArgs false
def gh0 : KGh := ⟨⟨#[]⟩, ⟨#[]⟩, ⟨#[]⟩, ⟨#[]⟩, false, false⟩
section
variable {iss irs ma mb : Int}
theorem meet_plain (hi : 0 ≤ iss ∧ iss ≤ 4294967295) (hj : 0 ≤ irs ∧ irs ≤ 4294967295) (hA : 8 ≤ ma ∧ ma ≤ 1000) (hB : 8 ≤ mb ∧ mb ≤ 1000) :
  ∃ y0 y2, sends (pr0 iss irs ma mb) = some y0 ∧ PI iss irs 0 0 (pr0 iss irs ma mb) ∧ (∀ g ∈ (cOut (pr0 iss irs ma mb).a).2, SegOk g) ∧ (∀ g ∈ (cOut (pr0 iss irs ma mb).b).2, SegOk g) ∧ Qx 2 y0 y2 ∧ PI iss irs 0 2 (gh gh0 y2) ∧
   y2.a = cE 1 40000 2 80 iss irs ma (cMss ma mb) 0 0 0 false ∧ y2.b = cE 2 80 1 40000 irs iss mb (cMss mb ma) 1 1 0 false ∧ y2.p.air = [] := by
 have h0 := pi_start hi hj hA hB
 obtain ⟨y0, hy, hP, hsa, hsb⟩ := h0.sends
 have e0 : gh gh0 (pr0 iss irs ma mb) = pr0 iss irs ma mb := rfl
 have hg : gh gh0 y0 = y0 := by
  have h := gh_sends gh0 (pr0 iss irs ma mb)
  rw [e0, hy] at h
  exact (Option.some.inj h).symm
 rw [← hg] at hP
 obtain ⟨z1, z2, z3, z4⟩ := sends_outs hy
 have oa : cOut (pr0 iss irs ma mb).a = (cA1 1 40000 2 80 iss ma, []) := out_a1
 have ob : cOut (pr0 iss irs ma mb).b = (cB1 2 80 1 40000 irs iss mb (cMss mb ma), [gSA 2 80 1 40000 irs iss mb]) := out_b (la := 2) (lp := 80) (ra := 1) (rp := 40000) hj (cMss_in hB).1
 rw [oa] at z1 z3
 rw [ob] at z2 z3
 have hair : y0.p.air = [gSA 2 80 1 40000 irs iss mb] := z3
 obtain ⟨z, q1, P1, hz⟩ := qok_pi hP hair (by decide)
 obtain ⟨a1, a2, a3, a4⟩ := sends_outs hz
 have hc1 : come ⟨y0.a, y0.b, { y0.p with air := [] }⟩ (gSA 2 80 1 40000 irs iss mb) = ⟨cIn y0.a (gSA 2 80 1 40000 irs iss mb), y0.b, { y0.p with air := [] }⟩ := by
  unfold come
  exact if_neg (show ¬ ((1 : Int) = 2 ∧ (40000 : Int) = 80) by decide)
 have hia : cIn y0.a (gSA 2 80 1 40000 irs iss mb) = cE 1 40000 2 80 iss irs ma (cMss ma mb) 0 0 0 true := by
  rw [z1]; exact in_sa (by decide) (by decide) hA hB
 have hoa : cOut (cE 1 40000 2 80 iss irs ma (cMss ma mb) 0 0 0 true) = ((cE 1 40000 2 80 iss irs ma (cMss ma mb) 0 0 0 false), [gAk 1 40000 2 80 iss irs]) := out_e (cMss_in hA)
 rw [hc1, hia] at a1 a2 a3
 dsimp only at a1 a2 a3
 rw [z2] at a2 a3
 rw [hoa] at a1 a3
 rw [out_b1'] at a2 a3
 have hair2 : z.p.air = [gAk 1 40000 2 80 iss irs] := a3
 obtain ⟨y, q2, P2, hy2⟩ := qok_pi P1 hair2 (by decide)
 obtain ⟨b1, b2, b3, b4⟩ := sends_outs hy2
 have hc2 : come ⟨z.a, z.b, { z.p with air := [] }⟩ (gAk 1 40000 2 80 iss irs) = ⟨z.a, cIn z.b (gAk 1 40000 2 80 iss irs), { z.p with air := [] }⟩ := by
  unfold come
  exact if_pos (show ((2 : Int) = 2 ∧ (80 : Int) = 80) by decide)
 have hib : cIn z.b (gAk 1 40000 2 80 iss irs) = cE 2 80 1 40000 irs iss mb (cMss mb ma) 1 1 0 false := by
  rw [a2]; exact in_ak (by decide) (by decide) (cMss_in hB)
 have hoa2 : cOut (cE 1 40000 2 80 iss irs ma (cMss ma mb) 0 0 0 false) = ((cE 1 40000 2 80 iss irs ma (cMss ma mb) 0 0 0 false), []) := out_e (cMss_in hA)
 have hob2 : cOut (cE 2 80 1 40000 irs iss mb (cMss mb ma) 1 1 0 false) = ((cE 2 80 1 40000 irs iss mb (cMss mb ma) 1 1 0 false), []) := out_e (cMss_in hB)
 rw [hc2, hib] at b1 b2 b3
 dsimp only at b1 b2 b3
 rw [a1, hoa2] at b1 b3
 rw [hob2] at b2 b3
 exact ⟨y0, y, hy, h0, hsa, hsb, ⟨_, _, z, hair, q1, _, _, y, hair2, q2, rfl, b3⟩, P2, b1, b2, b3⟩
end
section
variable {la lp ra rp iss irs own m wat wak now st D : Int} {o : OQ} {sh : Bool}
/-- one that was Established and has written, and may have closed -/
theorem fs_e {c : KCn} {A B : KAd} (ha : A = ⟨la, lp, ra, rp, iss⟩) (hb : B.iss = irs) (hm : 8 ≤ m ∧ m ≤ 1000) (x : Int) (hc : c = { cE la lp ra rp iss irs own m wat wak now false with o := o, shut := sh, st := st, clock := x })
  (ok : OqOk o) (hu : o.una = 1) (hcu : o.cur = 1) (hse : o.sent = 1) (hcl : o.cl = sh) (he : qEnd o ≤ 2097152) (hst : (sh = false ∧ st = 3) ∨ (sh = true ∧ st = 4)) :
  FS A B c newIQ 1 1 1 (2 * m + 1) 2049 := by
 subst ha hc
 refine ⟨⟨rfl, rfl, rfl, rfl, rfl⟩, hb.symm, ?_, hcl, rfl, rfl, rfl, rfl, ok, hu, hcu, hse, Int.le_refl 1, he, hm, rfl, rfl, ?_, new_iq_ok, stop_new, rfl, fun _ => rfl, ⟨by decide, by decide⟩, ⟨by decide, by decide⟩⟩
 ·show (sh = false ∧ (st = 3 ∨ st = 6)) ∨ (sh = true ∧ (st = 4 ∨ st = 8))
  rcases hst with ⟨h1, h2⟩ | ⟨h1, h2⟩
  ·exact .inl ⟨h1, .inl h2⟩
  ·exact .inr ⟨h1, .inl h2⟩
 ·show m ≤ 2 * m + 1 ∧ 2 * m + 1 ≤ 60000
  omega
theorem fr_e {A B : KAd} (hb : B = ⟨la, lp, ra, rp, iss⟩) (ha : A.iss = irs) : FR A B (cE la lp ra rp iss irs own m wat wak now false) 1 1 1 (some 2048) ⟨m, 2 * m + 1, 65535⟩ m false false := by
 subst hb
 exact ⟨⟨rfl, rfl, rfl, rfl, rfl⟩, ha.symm, .inl ⟨rfl, .inl rfl⟩, (fun e => by cases e), rfl, rfl, rfl, rfl, rfl, rfl, rfl, ⟨by decide, by decide⟩, ⟨by decide, by decide⟩, (fun x e => by cases e; rfl), rfl, newIQ, rfl, new_iq_ok, rfl, fun _ => ⟨fun _ => rfl, rfl, rfl⟩, rfl, rfl⟩
end
/-- what goes out of one that is Established, and has written something: it begins to flow -/
theorem flow_go {iss irs : Int} {N : Nat} {t : Int} {h : KGh} {x y : KPr} {q : IQ} {V D U w : Int} {R : Option Int} {W : KWd} {mr : Int} (hP : PI iss irs N t (gh h x)) (hy : sends x = some y) (hair : x.p.air = []) (ht : t ≤ 1000000)
  (hR : ∀ x, R = some x → 2048 - (endZ q - q.rd) = x) (hs : FS (adA iss) (adB irs) x.a q V U U w (D + 2048)) (hr : FR (adA iss) (adB irs) x.b U V D R W mr false false) (hw : w ≤ 30000) (hq : qEnd x.a.o ≤ D + 2047 ∧ qEnd x.a.o ≤ 1100) (hsh : x.a.shut = true → U < qEnd x.a.o) :
  PI iss irs N t (gh h y) ∧ ∃ (k : Nat) (z : KPr), k ≤ 2200 ∧ Qx k y z ∧ PI iss irs N (t + k) (gh h z) ∧ FP true iss irs q V D R W mr z ∧ z.p.air = [] ∧ Kep x.a z.a := by
 obtain ⟨f1, f2, f3, f4, f5, f6, f7⟩ := FI.start hR hs hr (ad_to iss irs) (hP.ciA.cok (by omega)) hw hq hsh
 obtain ⟨z1, z2, z3, z4⟩ := sends_outs hy
 rw [f2, List.foldl_nil, hair, airP_app _ _ (by rw [List.nil_append]; omega), List.nil_append] at z3
 rw [f2, List.append_nil] at f1
 obtain ⟨y', hy', hPy, _, _⟩ := hP.sends
 rw [gh_sends, hy] at hy'
 have hyy : y' = gh h y := (Option.some.inj hy').symm
 rw [hyy] at hPy
 have hF : FP true iss irs q V D R W mr y := by
  show FI _ _ _ _ _ _ _ _ y.a y.b y.p.air
  rw [z1, z2, z3]; exact f1
 have hu := hs.u1
 have hmu : muF (sdC true y) y.p.air ≤ 2200 := by
  show muF y.a y.p.air ≤ 2200
  rw [z1, z3]; omega
 obtain ⟨k, z, k1, k2, k3, k4, k5, k6⟩ := flow_all true 2200 t y hPy hF hmu (by omega)
 refine ⟨hPy, k, z, k1, k2, k3, k4, k5, ?_⟩
 have k6' : Kep y.a z.a := k6
 obtain ⟨a1, a2, a3⟩ := k6'
 rw [z1] at a1 a2 a3
 refine ⟨a1.trans f5, a2.trans f6, ?_⟩
 rw [f6, f7] at a3
 exact a3
/-- all has come, and nobody has closed -/
theorem flow_end {iss irs : Int} {q : IQ} {V D : Int} {R : Option Int} {W : KWd} {mr : Int} {x : KPr} (hF : FP true iss irs q V D R W mr x) (hair : x.p.air = []) :
  (x.a.shut = false → ∃ w, FS (adA iss) (adB irs) x.a q V (qEnd x.a.o) (qEnd x.a.o) w (D + 2048) ∧ FR (adA iss) (adB irs) x.b (qEnd x.a.o) V D R W mr false false) ∧
  (x.a.shut = true → FE (adA iss) (adB irs) x.a q (qEnd x.a.o) ∧ FR (adA iss) (adB irs) x.b (qEnd x.a.o) V D R W mr true false) := by
 have hF' : FI (adA iss) (adB irs) q V D R W mr x.a x.b x.p.air := hF
 rw [hair] at hF'
 rcases hF' with ⟨U, C, N, w, o, h⟩ | ⟨h1, h2, _⟩
 ·obtain ⟨d1, d2, d3, d4⟩ := h.done
  refine ⟨fun _ => ⟨w, ?_, ?_⟩, (fun e => by rw [d1] at e; cases e)⟩
  ·have := h.fs; rw [d2, d3] at this; exact this
  ·have := h.fr
   rw [d1, Bool.false_and, d4] at this
   exact this
 ·exact ⟨(fun e => by rw [h1.sh] at e; cases e), fun _ => ⟨h1, h2⟩⟩
end Go.Proofs.Ytfpifahkpkjfgaa
