/- What ConnHalf needs, a part: CnFe, CnFf, CnFg, CnQu. -/
import Derived.Deep.CutBlock
import Derived.Test.YtfpifahkpkjfgaaMZ
import Derived.Test.YtfpifahkpkjfgaaMConnHalf31
import Derived.Test.YtfpifahkpkjfgaaMConnHalf37
import Derived.Test.YtfpifahkpkjfgaaMConnHalf40
import Derived.Test.YtfpifahkpkjfgaaMConnHalf42
/- conn: bytes that flow one way in a pair (plain). -/
namespace Go.Proofs.Ytfpifahkpkjfgaa
open Go.RowKit Go.Lib
set_option linter.unusedVariables false
set_option linter.unusedSimpArgs false
/-- what a pair does not tell of itself: what was written, read, closed -/
structure KGh where
 T0 : ByteArray
 T1 : ByteArray
 G0 : ByteArray
 G1 : ByteArray
 s0 : Bool
 s1 : Bool
def ghP (h : KGh) (p : KPa) : KPa := { p with w0 := h.T0, w1 := h.T1, g0 := h.G0, g1 := h.G1, s0 := h.s0, s1 := h.s1, br := false }
def gh (h : KGh) (x : KPr) : KPr := ⟨x.a, x.b, ghP h x.p⟩
theorem gh_step (h : KGh) (i : Bool) (p : KPa) (g : KSeg) : sdStep i (ghP h p) g = ghP h (sdStep i p g) := by
 cases i with
 | true => rw [stepT, stepT]; rfl
 | false => rw [stepF, stepF]; rfl
theorem gh_ok (h : KGh) (i : Bool) (p : KPa) (g : KSeg) : sdOk i (ghP h p) g = sdOk i p g := by
 cases i <;> rfl
theorem gh_list (h : KGh) (i : Bool) : ∀ (l : List KSeg) (p : KPa), sdList i (ghP h p) l = (sdList i p l).map (ghP h)
  | [], p => rfl
  | g :: l, p => by
    unfold sdList
    rw [gh_ok, gh_step]
    by_cases hc : sdOk i p g = true
    · rw [if_pos hc, if_pos hc]; exact gh_list h i l _
    · rw [if_neg hc, if_neg hc]; rfl
theorem gh_sends (h : KGh) (x : KPr) : sends (gh h x) = (sends x).map (gh h) := by
  unfold sends
  show (match sdList true (ghP h x.p) (cOut x.a).2 with | none => none | some p1 => match sdList false p1 (cOut x.b).2 with | none => none | some p2 => some (⟨(cOut x.a).1, (cOut x.b).1, p2⟩ : KPr)) = _
  rw [gh_list]
  cases e1 : sdList true x.p (cOut x.a).2 with
  | none => rfl
  | some p1 =>
    show (match sdList false (ghP h p1) (cOut x.b).2 with | none => none | some p2 => some (⟨(cOut x.a).1, (cOut x.b).1, p2⟩ : KPr)) = _
    rw [gh_list]
    cases e2 : sdList false p1 (cOut x.b).2 with
    | none =>
      simp only [Option.map_none]
      rw [e2]
      rfl
    | some p2 =>
      simp only [Option.map_some]
      rw [e2]
      rfl
theorem sd_air (i : Bool) : ∀ (l : List KSeg) (p q : KPa), sdList i p l = some q → q.air = l.foldl airP p.air ∧ q.br = p.br
  | [], p, q, h => by
    have e : p = q := by simpa [sdList] using h
    subst e
    exact ⟨rfl, rfl⟩
  | g :: l, p, q, h => by
    unfold sdList at h
    split at h
    · obtain ⟨h1, h2⟩ := sd_air i l _ q h
      cases i with
      | true => rw [stepT] at h1 h2; exact ⟨h1, h2⟩
      | false => rw [stepF] at h1 h2; exact ⟨h1, h2⟩
    · cases h
theorem sends_outs {x y : KPr} (h : sends x = some y) : y.a = (cOut x.a).1 ∧ y.b = (cOut x.b).1 ∧ y.p.air = ((cOut x.b).2).foldl airP (((cOut x.a).2).foldl airP x.p.air) ∧ y.p.br = x.p.br := by
  unfold sends at h
  cases e1 : sdList true x.p (cOut x.a).2 with
  | none => rw [e1] at h; cases h
  | some p1 =>
    rw [e1] at h
    dsimp only at h
    cases e2 : sdList false p1 (cOut x.b).2 with
    | none => rw [e2] at h; cases h
    | some p2 =>
      rw [e2] at h
      injection h with h
      subst h
      obtain ⟨h1, h2⟩ := sd_air true _ _ _ e1
      obtain ⟨h3, h4⟩ := sd_air false _ _ _ e2
      exact ⟨rfl, rfl, by rw [← h1]; exact h3, h4.trans h2⟩
theorem airP_app : ∀ (ds l : List KSeg), (l ++ ds).length ≤ 200 → ds.foldl airP l = l ++ ds
  | [], l, _ => (List.append_nil l).symm
  | g :: ds, l, h => by
    have e : airP l g = l ++ [g] := by
      unfold airP
      rw [if_pos]
      rw [List.length_append, List.length_cons] at h
      omega
    rw [List.foldl_cons, e, airP_app ds (l ++ [g]) (by rw [List.append_assoc]; exact h), List.append_assoc]
    rfl
theorem come_l (x : KPr) (g : KSeg) (l : List KSeg) : come ⟨x.a, x.b, { x.p with air := l }⟩ g = ⟨(come x g).a, (come x g).b, { (come x g).p with air := l }⟩ := by
 unfold come; split <;> rfl
theorem come_gh (h : KGh) (x : KPr) (g : KSeg) : come (gh h x) g = gh h (come x g) := by
 unfold come
 show (if g.ta = 2 ∧ g.tp = 80 then _ else _) = _
 split <;> rfl
section
variable {iss irs : Int} {N : Nat} {t : Int} {h : KGh} {x : KPr} {g : KSeg} {l : List KSeg}
theorem PI.ciA {x : KPr} (h : PI iss irs N t x) : CI x.a t := by obtain ⟨_, _, hx⟩ := h.h; exact PH.ca hx
theorem PI.ciB {x : KPr} (h : PI iss irs N t x) : CI x.b t := by obtain ⟨_, _, hx⟩ := h.h; exact PH.cb hx
/-- one goes out of the air -/
theorem qok_pi (hP : PI iss irs N t (gh h x)) (hair : x.p.air = g :: l) (ht : t ≤ 100000000) :
  ∃ z, QOk x g l z ∧ PI iss irs N (t + 1) (gh h z) ∧ sends (come ⟨x.a, x.b, { x.p with air := l }⟩ g) = some z := by
 have hg : g ∈ (gh h x).p.air := by show g ∈ x.p.air; rw [hair]; exact List.mem_cons_self ..
 have h1 := hP.come hg (by omega)
 have hlen := hP.len
 have hlx : ((gh h x).p.air.length : Int) = l.length + 1 := by show (x.p.air.length : Int) = _; rw [hair]; rfl
 rw [hlx] at hlen
 have hcp : (come (gh h x) g).p = (gh h x).p := by unfold come; split <;> rfl
 have h2 := h1.few (l := l) (fun y hy => by rw [hcp]; show y ∈ x.p.air; rw [hair]; exact List.mem_cons_of_mem _ hy) (by omega)
 have e2 : (⟨(come (gh h x) g).a, (come (gh h x) g).b, { (come (gh h x) g).p with air := l }⟩ : KPr) = gh h (come ⟨x.a, x.b, { x.p with air := l }⟩ g) := by
  rw [come_gh, come_l x g l]; rfl
 rw [e2] at h2
 obtain ⟨y, hy, hPy, hsa, hsb⟩ := h2.sends
 rw [gh_sends] at hy
 obtain ⟨z, hz, rfl⟩ := Option.map_eq_some_iff.1 hy
 have hsg : SegOk g := by obtain ⟨_, _, hx⟩ := hP.h; exact PH.aok hx g hg
 have hok := h2.ok
 refine ⟨z, ⟨t + 1, by omega, hP.ciA.mono (by omega), hP.ciB.mono (by omega), hsg, h2.ciA, h2.ciB, ⟨hok.e0, hok.e1⟩, ?_, hz, hsa, hsb⟩, hPy, hz⟩
 have : (come ⟨x.a, x.b, { x.p with air := l }⟩ g).p.air = l := by rw [come_l x g l]
 rw [this]
 omega
def adA (iss : Int) : KAd := ⟨1, 40000, 2, 80, iss⟩
def adB (irs : Int) : KAd := ⟨2, 80, 1, 40000, irs⟩
theorem ad_to (iss irs : Int) : AdTo (adA iss) (adB irs) := ⟨rfl, rfl, rfl, rfl, (by decide : (0 : Int) < 40000 ∧ (40000 : Int) ≤ 65535), (by decide : (0 : Int) < 80 ∧ (80 : Int) ≤ 65535), (by decide : (0 : Int) ≤ 1 ∧ (1 : Int) ≤ 4294967295), (by decide : (0 : Int) ≤ 2 ∧ (2 : Int) ≤ 4294967295)⟩
theorem ad_from (iss irs : Int) : AdTo (adB irs) (adA iss) := ⟨rfl, rfl, rfl, rfl, (by decide : (0 : Int) < 80 ∧ (80 : Int) ≤ 65535), (by decide : (0 : Int) < 40000 ∧ (40000 : Int) ≤ 65535), (by decide : (0 : Int) ≤ 2 ∧ (2 : Int) ≤ 4294967295), (by decide : (0 : Int) ≤ 1 ∧ (1 : Int) ≤ 4294967295)⟩
/-- who sends, who receives -/
def sdC (d : Bool) (x : KPr) : KCn := if d then x.a else x.b
def FP (d : Bool) (iss irs : Int) (q : IQ) (V D : Int) (R : Option Int) (W : KWd) (mr : Int) (sr : Bool) (O : OQ) (x : KPr) : Prop :=
 if d then FI (adA iss) (adB irs) q V D R W mr sr O x.a x.b x.p.air else FI (adB irs) (adA iss) q V D R W mr sr O x.b x.a x.p.air
/-- what stays of the sender -/
def Kep (s s' : KCn) : Prop := qEnd s'.o = qEnd s.o ∧ s'.shut = s.shut ∧ (s'.st = s.st ∨ (s.shut = true ∧ (s.st = 4 ∧ s'.st = 5 ∨ s.st = 8 ∧ s'.st = 0)))
theorem flow_all (d : Bool) {q : IQ} {V D : Int} {R : Option Int} {W : KWd} {mr : Int} {sr : Bool} {O : OQ} : ∀ (n : Nat) (t : Int) (x : KPr), PI iss irs N t (gh h x) → FP d iss irs q V D R W mr sr O x → muF (sdC d x) x.p.air ≤ n → t + n ≤ 100000000 →
    ∃ (k : Nat) (y : KPr), k ≤ n ∧ Qx k x y ∧ PI iss irs N (t + k) (gh h y) ∧ FP d iss irs q V D R W mr sr O y ∧ y.p.air = [] ∧ Kep (sdC d x) (sdC d y) := by
  intro n
  induction n with
  | zero =>
    intro t x hP hF hm ht
    have ha : x.p.air = [] := by
      cases hx : x.p.air with
      | nil => rfl
      | cons g l =>
        rw [hx] at hm
        unfold muF wtA sgW at hm
        split at hm <;> omega
    exact ⟨0, x, Nat.le_refl 0, ⟨rfl, ha⟩, by simpa using hP, hF, ha, rfl, rfl, .inl rfl⟩
  | succ n ih =>
    intro t x hP hF hm ht
    cases hx : x.p.air with
    | nil => exact ⟨0, x, Nat.zero_le _, ⟨rfl, hx⟩, by simpa using hP, hF, hx, rfl, rfl, .inl rfl⟩
    | cons g l =>
      obtain ⟨z, hq, hPz, hz⟩ := qok_pi hP hx (by omega)
      obtain ⟨z1, z2, z3, z4⟩ := sends_outs hz
      have hsg : SegOk g := by obtain ⟨_, _, _, _, h5, _⟩ := hq; exact h5
      have hca := hP.ciA
      have hcb := hP.ciB
      have key : FP d iss irs q V D R W mr sr O z ∧ muF (sdC d z) z.p.air < muF (sdC d x) x.p.air ∧ Kep (sdC d x) (sdC d z) ∧ ((sdC d x).shut = true → (sdC d x).st = 4 ∨ (sdC d x).st = 8 ∨ True) := by
        cases d with
        | true =>
          have hF' : FI (adA iss) (adB irs) q V D R W mr sr O x.a x.b x.p.air := hF
          rw [hx] at hF'
          rcases hF' with ⟨U, C, M, w, E, o, hF'⟩ | ⟨_, _, hF'⟩
          · rcases hF'.step (ad_to iss irs) (hca.cok (by omega)) ((hca.in_ (by omega) g hsg).1.cok (by omega)) with ⟨⟨g1, g2, g3, g4, g5, g6⟩, g7, g8, g9⟩ | ⟨⟨g1, g2, g3, g4, g5, g6⟩, g7, g8, g9⟩
            · have hc : come ⟨x.a, x.b, { x.p with air := l }⟩ g = ⟨x.a, cIn x.b g, { x.p with air := l }⟩ := by unfold come; rw [if_pos ⟨g1, g2⟩]
              rw [hc] at z1 z2 z3
              dsimp only at z1 z2 z3
              rw [g3, List.foldl_nil, airP_app _ _ (by omega)] at z3
              refine ⟨?_, ?_, ?_, fun _ => .inr (.inr trivial)⟩
              · show FI _ _ _ _ _ _ _ _ _ _ z.a z.b z.p.air
                rw [z1, z2, z3]; exact g4
              · show muF z.a z.p.air < muF x.a x.p.air
                rw [z1, z3, hx]; exact g5
              · show Kep x.a z.a
                rw [z1]; exact ⟨g7, g8, .inl g9⟩
            · have hc : come ⟨x.a, x.b, { x.p with air := l }⟩ g = ⟨cIn x.a g, x.b, { x.p with air := l }⟩ := by
                unfold come; rw [if_neg (fun e => by have h1 := g1.symm.trans e.1; exact absurd h1 (show ¬ (1 : Int) = 2 by decide))]
              rw [hc] at z1 z2 z3
              dsimp only at z1 z2 z3
              rw [g3, List.foldl_nil, airP_app _ _ (by omega)] at z3
              refine ⟨?_, ?_, ?_, fun _ => .inr (.inr trivial)⟩
              · show FI _ _ _ _ _ _ _ _ _ _ z.a z.b z.p.air
                rw [z1, z2, z3]; exact g4
              · show muF z.a z.p.air < muF x.a x.p.air
                rw [z1, z3, hx]; exact g5
              · show Kep x.a z.a
                rw [z1]; exact ⟨g7, g8, g9⟩
          · cases hF'
        | false =>
          have hF' : FI (adB irs) (adA iss) q V D R W mr sr O x.b x.a x.p.air := hF
          rw [hx] at hF'
          rcases hF' with ⟨U, C, M, w, E, o, hF'⟩ | ⟨_, _, hF'⟩
          · rcases hF'.step (ad_from iss irs) (hcb.cok (by omega)) ((hcb.in_ (by omega) g hsg).1.cok (by omega)) with ⟨⟨g1, g2, g3, g4, g5, g6⟩, g7, g8, g9⟩ | ⟨⟨g1, g2, g3, g4, g5, g6⟩, g7, g8, g9⟩
            · have hc : come ⟨x.a, x.b, { x.p with air := l }⟩ g = ⟨cIn x.a g, x.b, { x.p with air := l }⟩ := by
                unfold come; rw [if_neg (fun e => by have h1 := g1.symm.trans e.1; exact absurd h1 (show ¬ (1 : Int) = 2 by decide))]
              rw [hc] at z1 z2 z3
              dsimp only at z1 z2 z3
              rw [g3, List.foldl_nil, airP_app _ _ (by omega)] at z3
              refine ⟨?_, ?_, ?_, fun _ => .inr (.inr trivial)⟩
              · show FI _ _ _ _ _ _ _ _ _ _ z.b z.a z.p.air
                rw [z1, z2, z3]; exact g4
              · show muF z.b z.p.air < muF x.b x.p.air
                rw [z2, z3, hx]; exact g5
              · show Kep x.b z.b
                rw [z2]; exact ⟨g7, g8, .inl g9⟩
            · have hc : come ⟨x.a, x.b, { x.p with air := l }⟩ g = ⟨x.a, cIn x.b g, { x.p with air := l }⟩ := by unfold come; rw [if_pos ⟨g1, g2⟩]
              rw [hc] at z1 z2 z3
              dsimp only at z1 z2 z3
              rw [g3, List.foldl_nil, airP_app _ _ (by omega)] at z3
              refine ⟨?_, ?_, ?_, fun _ => .inr (.inr trivial)⟩
              · show FI _ _ _ _ _ _ _ _ _ _ z.b z.a z.p.air
                rw [z1, z2, z3]; exact g4
              · show muF z.b z.p.air < muF x.b x.p.air
                rw [z2, z3, hx]; exact g5
              · show Kep x.b z.b
                rw [z2]; exact ⟨g7, g8, g9⟩
          · cases hF'
      obtain ⟨k1, k2, k3, _⟩ := key
      obtain ⟨k, y, j1, j2, j3, j4, j5, j6⟩ := ih (t + 1) z hPz k1 (by omega) (by omega)
      refine ⟨k + 1, y, by omega, ⟨g, l, z, hx, hq, j2⟩, by rw [show t + ((k + 1 : Nat) : Int) = t + 1 + k by omega]; exact j3, j4, j5, ?_⟩
      obtain ⟨a1, a2, a3⟩ := k3
      obtain ⟨b1, b2, b3⟩ := j6
      refine ⟨b1.trans a1, b2.trans a2, ?_⟩
      rcases a3 with a3 | ⟨a3, a4⟩
      · rw [a3, a2] at b3; exact b3
      · rcases b3 with b3 | ⟨b3, b4⟩
        · right; exact ⟨a3, by rw [b3]; exact a4⟩
        · omega
end
end Go.Proofs.Ytfpifahkpkjfgaa
/- conn: two that have met; the start of a flow (plain). -/
namespace Go.Proofs.Ytfpifahkpkjfgaa
open Go.RowKit Go.Lib
set_option linter.unusedVariables false
set_option linter.unusedSimpArgs false
def gh0 : KGh := ⟨⟨#[]⟩, ⟨#[]⟩, ⟨#[]⟩, ⟨#[]⟩, false, false⟩
section
variable {iss irs ma mb : Int}
theorem meet_plain (hi : 0 ≤ iss ∧ iss ≤ 4294967295) (hj : 0 ≤ irs ∧ irs ≤ 4294967295) (hA : 8 ≤ ma ∧ ma ≤ 1000) (hB : 8 ≤ mb ∧ mb ≤ 1000) :
  ∃ y0 y2, sends (pr0 iss irs ma mb) = some y0 ∧ PI iss irs 0 0 (pr0 iss irs ma mb) ∧ (∀ g ∈ (cOut (pr0 iss irs ma mb).a).2, SegOk g) ∧ (∀ g ∈ (cOut (pr0 iss irs ma mb).b).2, SegOk g) ∧ Qx 2 y0 y2 ∧ PI iss irs 0 2 (gh gh0 y2) ∧
   y2.a = cE 1 40000 2 80 iss irs ma (cMss ma mb) 0 0 0 false ∧ y2.b = cE 2 80 1 40000 irs iss mb (cMss mb ma) 1 1 0 false ∧ y2.p.air = [] := by
 have h0 := pi_start hi hj hA hB
 obtain ⟨y0, hy, hP, hsa, hsb⟩ := h0.sends
 have e0 : gh gh0 (pr0 iss irs ma mb) = pr0 iss irs ma mb := rfl
 have hg : gh gh0 y0 = y0 := by
  have h := gh_sends gh0 (pr0 iss irs ma mb)
  rw [e0, hy] at h
  exact (Option.some.inj h).symm
 rw [← hg] at hP
 obtain ⟨z1, z2, z3, z4⟩ := sends_outs hy
 have oa : cOut (pr0 iss irs ma mb).a = (cA1 1 40000 2 80 iss ma, []) := out_a1
 have ob : cOut (pr0 iss irs ma mb).b = (cB1 2 80 1 40000 irs iss mb (cMss mb ma), [gSA 2 80 1 40000 irs iss mb]) := out_b (la := 2) (lp := 80) (ra := 1) (rp := 40000) hj (cMss_in hB).1
 rw [oa] at z1 z3
 rw [ob] at z2 z3
 have hair : y0.p.air = [gSA 2 80 1 40000 irs iss mb] := z3
 obtain ⟨z, q1, P1, hz⟩ := qok_pi hP hair (by decide)
 obtain ⟨a1, a2, a3, a4⟩ := sends_outs hz
 have hc1 : come ⟨y0.a, y0.b, { y0.p with air := [] }⟩ (gSA 2 80 1 40000 irs iss mb) = ⟨cIn y0.a (gSA 2 80 1 40000 irs iss mb), y0.b, { y0.p with air := [] }⟩ := by
  unfold come
  exact if_neg (show ¬ ((1 : Int) = 2 ∧ (40000 : Int) = 80) by decide)
 have hia : cIn y0.a (gSA 2 80 1 40000 irs iss mb) = cE 1 40000 2 80 iss irs ma (cMss ma mb) 0 0 0 true := by
  rw [z1]; exact in_sa (by decide) (by decide) hA hB
 have hoa : cOut (cE 1 40000 2 80 iss irs ma (cMss ma mb) 0 0 0 true) = ((cE 1 40000 2 80 iss irs ma (cMss ma mb) 0 0 0 false), [gAk 1 40000 2 80 iss irs]) := out_e (cMss_in hA)
 rw [hc1, hia] at a1 a2 a3
 dsimp only at a1 a2 a3
 rw [z2] at a2 a3
 rw [hoa] at a1 a3
 rw [out_b1'] at a2 a3
 have hair2 : z.p.air = [gAk 1 40000 2 80 iss irs] := a3
 obtain ⟨y, q2, P2, hy2⟩ := qok_pi P1 hair2 (by decide)
 obtain ⟨b1, b2, b3, b4⟩ := sends_outs hy2
 have hc2 : come ⟨z.a, z.b, { z.p with air := [] }⟩ (gAk 1 40000 2 80 iss irs) = ⟨z.a, cIn z.b (gAk 1 40000 2 80 iss irs), { z.p with air := [] }⟩ := by
  unfold come
  exact if_pos (show ((2 : Int) = 2 ∧ (80 : Int) = 80) by decide)
 have hib : cIn z.b (gAk 1 40000 2 80 iss irs) = cE 2 80 1 40000 irs iss mb (cMss mb ma) 1 1 0 false := by
  rw [a2]; exact in_ak (by decide) (by decide) (cMss_in hB)
 have hoa2 : cOut (cE 1 40000 2 80 iss irs ma (cMss ma mb) 0 0 0 false) = ((cE 1 40000 2 80 iss irs ma (cMss ma mb) 0 0 0 false), []) := out_e (cMss_in hA)
 have hob2 : cOut (cE 2 80 1 40000 irs iss mb (cMss mb ma) 1 1 0 false) = ((cE 2 80 1 40000 irs iss mb (cMss mb ma) 1 1 0 false), []) := out_e (cMss_in hB)
 rw [hc2, hib] at b1 b2 b3
 dsimp only at b1 b2 b3
 rw [a1, hoa2] at b1 b3
 rw [hob2] at b2 b3
 exact ⟨y0, y, hy, h0, hsa, hsb, ⟨_, _, z, hair, q1, _, _, y, hair2, q2, rfl, b3⟩, P2, b1, b2, b3⟩
end
section
variable {la lp ra rp iss irs own m wat wak now st D : Int} {o : OQ} {sh : Bool}
/-- one that was Established and has written, and may have closed -/
theorem fs_e {c : KCn} {A B : KAd} (ha : A = ⟨la, lp, ra, rp, iss⟩) (hb : B.iss = irs) (hm : 8 ≤ m ∧ m ≤ 1000) (x : Int) (hc : c = { cE la lp ra rp iss irs own m wat wak now false with o := o, shut := sh, st := st, clock := x })
  (ok : OqOk o) (hu : o.una = 1) (hcu : o.cur = 1) (hse : o.sent = 1) (hcl : o.cl = sh) (he : qEnd o ≤ 2097152) (hst : (sh = false ∧ st = 3) ∨ (sh = true ∧ st = 4)) :
  FS A B c newIQ 1 1 1 (2 * m + 1) 2049 := by
 subst ha hc
 refine ⟨⟨rfl, rfl, rfl, rfl, rfl⟩, hb.symm, ?_, hcl, rfl, rfl, rfl, rfl, ok, hu, hcu, hse, Int.le_refl 1, he, hm, rfl, rfl, ?_, new_iq_ok, stop_new, rfl, fun _ => rfl, ⟨by decide, by decide⟩, ⟨by decide, by decide⟩⟩
 ·show (sh = false ∧ (st = 3 ∨ st = 6)) ∨ (sh = true ∧ (st = 4 ∨ st = 8))
  rcases hst with ⟨h1, h2⟩ | ⟨h1, h2⟩
  ·exact .inl ⟨h1, .inl h2⟩
  ·exact .inr ⟨h1, .inl h2⟩
 ·show m ≤ 2 * m + 1 ∧ 2 * m + 1 ≤ 60000
  omega
theorem fr_e {A B : KAd} (hb : B = ⟨la, lp, ra, rp, iss⟩) (ha : A.iss = irs) : FR A B (cE la lp ra rp iss irs own m wat wak now false) 1 1 1 (some 2048) ⟨m, 2 * m + 1, 65535⟩ m false ⟨[], 1, 1, 1, 1, false⟩ false false := by
 subst hb
 exact ⟨⟨rfl, rfl, rfl, rfl, rfl⟩, ha.symm, rfl, rfl, (fun e => by cases e), rfl, rfl, rfl, rfl, rfl, rfl, rfl, rfl, rfl, ⟨by decide, by decide⟩, ⟨by decide, by decide⟩, (fun x e => by cases e; rfl), rfl, newIQ, rfl, new_iq_ok, rfl, fun _ => ⟨fun _ => rfl, rfl, rfl⟩, rfl, rfl⟩
end
/-- what goes out of one that is Established, and has written something: it begins to flow -/
theorem flow_go {iss irs : Int} {N : Nat} {t : Int} {h : KGh} {x y : KPr} {q : IQ} {V D U w E : Int} {R : Option Int} {W : KWd} {mr : Int} {sr : Bool} {O : OQ} (hP : PI iss irs N t (gh h x)) (hy : sends x = some y) (hair : x.p.air = []) (ht : t ≤ 1000000)
  (hR : ∀ x, R = some x → 2048 - (endZ q - q.rd) = x) (hs : FS (adA iss) (adB irs) x.a q V U U w E) (hr : FR (adA iss) (adB irs) x.b U V D R W mr sr O false false) (hw : w ≤ 30000 + U) (hE : 1500 ≤ E) (hq : qEnd x.a.o ≤ D + 2047 ∧ qEnd x.a.o ≤ 1100) (hsh : x.a.shut = true → U < qEnd x.a.o) :
  PI iss irs N t (gh h y) ∧ ∃ (k : Nat) (z : KPr), k ≤ 2200 ∧ Qx k y z ∧ PI iss irs N (t + k) (gh h z) ∧ FP true iss irs q V D R W mr sr O z ∧ z.p.air = [] ∧ Kep x.a z.a := by
 obtain ⟨f1, f2, f3, f4, f5, f6, f7⟩ := FI.start hR hs hr (ad_to iss irs) (hP.ciA.cok (by omega)) hw hE hq hsh
 obtain ⟨z1, z2, z3, z4⟩ := sends_outs hy
 rw [f2, List.foldl_nil, hair, airP_app _ _ (by rw [List.nil_append]; omega), List.nil_append] at z3
 rw [f2, List.append_nil] at f1
 obtain ⟨y', hy', hPy, _, _⟩ := hP.sends
 rw [gh_sends, hy] at hy'
 have hyy : y' = gh h y := (Option.some.inj hy').symm
 rw [hyy] at hPy
 have hF : FP true iss irs q V D R W mr sr O y := by
  show FI _ _ _ _ _ _ _ _ _ _ y.a y.b y.p.air
  rw [z1, z2, z3]; exact f1
 have hu := hs.u1
 have hmu : muF (sdC true y) y.p.air ≤ 2200 := by
  show muF y.a y.p.air ≤ 2200
  rw [z1, z3]; omega
 obtain ⟨k, z, k1, k2, k3, k4, k5, k6⟩ := flow_all true 2200 t y hPy hF hmu (by omega)
 refine ⟨hPy, k, z, k1, k2, k3, k4, k5, ?_⟩
 have k6' : Kep y.a z.a := k6
 obtain ⟨a1, a2, a3⟩ := k6'
 rw [z1] at a1 a2 a3
 refine ⟨a1.trans f5, a2.trans f6, ?_⟩
 rw [f6, f7] at a3
 exact a3
/-- all has come, and nobody has closed -/
theorem flow_end {iss irs : Int} {q : IQ} {V D : Int} {R : Option Int} {W : KWd} {mr : Int} {sr : Bool} {O : OQ} {x : KPr} (hF : FP true iss irs q V D R W mr sr O x) (hair : x.p.air = []) :
  (x.a.shut = false → ∃ w E, FS (adA iss) (adB irs) x.a q V (qEnd x.a.o) (qEnd x.a.o) w E ∧ FR (adA iss) (adB irs) x.b (qEnd x.a.o) V D R W mr sr O false false ∧ w ≤ 30000 + qEnd x.a.o ∧ 1500 ≤ E) ∧
  (x.a.shut = true → FE (adA iss) (adB irs) x.a q (qEnd x.a.o) ∧ FR (adA iss) (adB irs) x.b (qEnd x.a.o) V D R W mr sr O true false) := by
 have hF' : FI (adA iss) (adB irs) q V D R W mr sr O x.a x.b x.p.air := hF
 rw [hair] at hF'
 rcases hF' with ⟨U, C, N, w, E, o, h⟩ | ⟨h1, h2, _⟩
 ·obtain ⟨d1, d2, d3, d4⟩ := h.done
  refine ⟨fun _ => ⟨w, E, ?_, ?_, ?_, h.q2⟩, (fun e => by rw [d1] at e; cases e)⟩
  ·have := h.fs; rw [d2, d3] at this; exact this
  ·have := h.fr
   rw [d1, Bool.false_and, d4] at this
   exact this
  ·have := h.w; rw [d2] at this; exact this
 ·exact ⟨(fun e => by rw [h1.sh] at e; cases e), fun _ => ⟨h1, h2⟩⟩
end Go.Proofs.Ytfpifahkpkjfgaa
/- conn: one side breaks off (plain): what ConnBreaks sees. -/
namespace Go.Proofs.Ytfpifahkpkjfgaa
open Go.RowKit Go.Lib
set_option linter.unusedVariables false
set_option linter.unusedSimpArgs false
/-- what the walk asks of sends -/
def SOk (x z : KPr) : Prop :=
 ∃ t : Int, t ≤ 1000000000000 ∧ CI x.a t ∧ CI x.b t ∧ POk x.p ∧ x.p.air.length ≤ 1000000000 ∧ sends x = some z ∧ (∀ s ∈ (cOut x.a).2, SegOk s) ∧ (∀ s ∈ (cOut x.b).2, SegOk s)
theorem sok_pi {iss irs : Int} {N : Nat} {t : Int} {h : KGh} {x : KPr} (hP : PI iss irs N t (gh h x)) (ht : t ≤ 100000000) : ∃ z, SOk x z ∧ PI iss irs N t (gh h z) := by
 obtain ⟨y, hy, hPy, hsa, hsb⟩ := hP.sends
 rw [gh_sends] at hy
 obtain ⟨z, hz, rfl⟩ := Option.map_eq_some_iff.1 hy
 have hok := hP.ok
 have hlen := hP.len
 have hl : ((gh h x).p.air.length : Int) = x.p.air.length := rfl
 exact ⟨z, ⟨t, by omega, hP.ciA, hP.ciB, ⟨hok.e0, hok.e1⟩, by omega, hz, hsa, hsb⟩, hPy⟩
theorem write_e {la lp ra rp iss irs own m wat wak now : Int} {T : ByteArray} (hT : T.size ≤ 1000) :
  ∃ x, (cWrite (cE la lp ra rp iss irs own m wat wak now false) T).1 = { cE la lp ra rp iss irs own m wat wak now false with o := oWrite ⟨[], 1, 1, 1, 1, false⟩ T, clock := x } ∧ (cWrite (cE la lp ra rp iss irs own m wat wak now false) T).2.1 = T.size ∧ (cWrite (cE la lp ra rp iss irs own m wat wak now false) T).2.2 = 0 := by
 have hn : oN ⟨[], 1, 1, 1, 1, false⟩ T.size = T.size := by
  unfold oN oRoom
  simp
  omega
 obtain ⟨x, hx, -⟩ := cSettle_is { cE la lp ra rp iss irs own m wat wak now false with o := oWrite ⟨[], 1, 1, 1, 1, false⟩ T }
 have e : cWrite (cE la lp ra rp iss irs own m wat wak now false) T = (cSettle { cE la lp ra rp iss irs own m wat wak now false with o := oWrite ⟨[], 1, 1, 1, 1, false⟩ T }, ((T.size : Int), 0)) := by
  unfold cWrite
  rw [if_neg (fun e => absurd e.1 (show ¬ (3 : Int) = 0 by decide)), if_neg (fun e => by rcases e with e | e; exact absurd e (show ¬ (3 : Int) = 0 by decide); cases e)]
  show (cSettle { cE la lp ra rp iss irs own m wat wak now false with o := oWrite ⟨[], 1, 1, 1, 1, false⟩ T }, if oN ⟨[], 1, 1, 1, 1, false⟩ T.size = 0 ∧ T.size ≠ 0 then ((0 : Int), (14 : Int)) else ((oN ⟨[], 1, 1, 1, 1, false⟩ T.size : Int), 0)) = _
  rw [hn, if_neg (fun e => e.2 e.1)]
 rw [e]
 exact ⟨x, hx, rfl, rfl⟩
theorem ok_e : OqOk ⟨[], 1, 1, 1, 1, false⟩ := ⟨by decide, by decide, by decide, by decide, by decide, by decide, .inr ⟨by decide, by decide⟩⟩
theorem fin_w {T : ByteArray} (hT : T.size ≤ 1000) : oFin (oWrite ⟨[], 1, 1, 1, 1, false⟩ T) = 1 + T.size := by
 have hn : oN ⟨[], 1, 1, 1, 1, false⟩ T.size = T.size := by
  unfold oN oRoom
  simp
  omega
 unfold oFin oWrite
 rw [hn]
 show (1 : Int) + (([] ++ sI (T.extract 0 T.size) : List Int).length : Int) = _
 rw [List.nil_append, sI_len, ByteArray.size_extract]
 omega
theorem ext_all (T : ByteArray) : (⟨#[]⟩ : ByteArray) ++ T.extract 0 ((T.size : Int).toNat) = T := by
 rw [Int.toNat_natCast, ByteArray.extract_zero_size]
 exact ByteArray.empty_append
/-- all that ConnBreaks sees, from the meeting on -/
structure BrkAll (iss irs : Int) (y : KPr) (T : ByteArray) : Prop where
 w : (cWrite y.a T).2.2 = 0
 go : ∃ (x4 x5 x7 x8 : KPr) (k : Nat), SOk ⟨(cWrite y.a T).1, y.b, y.p⟩ x4 ∧ k ≤ 9001 ∧ Qx k x4 x5 ∧ (∃ t : Int, t ≤ 1000000000000 ∧ CI x5.a t) ∧ (cAbort x5.a).2 = 0 ∧ SOk ⟨(cAbort x5.a).1, x5.b, x5.p⟩ x7 ∧
  Qx 1 ⟨x7.a, x7.b, { x7.p with br := true }⟩ x8 ∧ x8.b.st = 0 ∧ x8.b.why = 12 ∧ x8.a.why = 17 ∧ (∃ t : Int, t ≤ 1000000 ∧ CI x8.b t) ∧
  (cRead x8.b 999).2.2.2 = (if T.size = 0 then 12 else 0) ∧ (T.size ≠ 0 → (cRead x8.b 999).2.1 = T ∧ (cRead (cRead x8.b 999).1 9).2.2.2 = 12 ∧ (cWrite (cRead (cRead x8.b 999).1 9).1 ⟨#[120]⟩).2.2 = 12) ∧
  (T.size = 0 → (cRead x8.b 9).2.2.2 = 12 ∧ (cWrite (cRead x8.b 9).1 ⟨#[120]⟩).2.2 = 12)
end Go.Proofs.Ytfpifahkpkjfgaa
/- conn: calls of a pair's two. Written by my gencn.py. -/
namespace Go.Proofs.Ytfpifahkpkjfgaa
open Go.RowKit Go.Lib
set_option linter.unusedVariables false
set_option linter.unusedSimpArgs false
theorem sends_p {E : Nat → Prop} {w0 W : World} (gp ga gia gwa : Nat) (ka : KPt) (gb gib gwb : Nat) (kb : KPt) (va : Value) (x z : KPr) (m : List Res) (hs : SOk x z) (h : MemX E w0 W (prM (⟨gp, ga, gia, gwa, ka, gb, gib, gwb, kb, va⟩ : KPl) x m)) (hok : KPl.ok (⟨gp, ga, gia, gwa, ka, gb, gib, gwb, kb, va⟩ : KPl) x) :
  Calls Try.prog 21 #[.pointer (some ⟨gp, 0, none⟩)] W fun e W' => e = .returned (.bool true) ∧ ∃ ka' kb' va', MemX E w0 W' (prM (⟨gp, ga, gia, gwa, ka', gb, gib, gwb, kb', va'⟩ : KPl) z m) ∧ KPl.ok (⟨gp, ga, gia, gwa, ka', gb, gib, gwb, kb', va'⟩ : KPl) z := by
 obtain ⟨t, s1, s2, s3, s4, s5, s6, s7, s8⟩ := hs
 refine (sends_any (⟨gp, ga, gia, gwa, ka, gb, gib, gwb, kb, va⟩ : KPl) x z m W h hok t s2 s3 s1 s6 s4 s5 s7 s8).mono ?_
 rintro e W' ⟨ka', kb', va', rfl, h2, h3⟩
 exact ⟨rfl, ka', kb', va', h2, h3⟩
theorem quiet_p {E : Nat → Prop} {w0 W : World} (gp ga gia gwa : Nat) (ka : KPt) (gb gib gwb : Nat) (kb : KPt) (va : Value) (x z : KPr) (m : List Res) (n : Nat) (hn : n ≤ 9001) (hq : Qx n x z) (h : MemX E w0 W (prM (⟨gp, ga, gia, gwa, ka, gb, gib, gwb, kb, va⟩ : KPl) x m)) (hok : KPl.ok (⟨gp, ga, gia, gwa, ka, gb, gib, gwb, kb, va⟩ : KPl) x) :
  Calls Try.prog 24 #[.pointer (some ⟨gp, 0, none⟩)] W fun e W' => e = .returned (.bool true) ∧ ∃ gia' gwa' ka' gib' gwb' kb' va', MemX E w0 W' (prM (⟨gp, ga, gia', gwa', ka', gb, gib', gwb', kb', va'⟩ : KPl) z m) ∧ KPl.ok (⟨gp, ga, gia', gwa', ka', gb, gib', gwb', kb', va'⟩ : KPl) z := by
 refine (quiet_any (⟨gp, ga, gia, gwa, ka, gb, gib, gwb, kb, va⟩ : KPl) x z m W h hok n hn hq).mono ?_
 rintro e W' ⟨rfl, ⟨gp1, ga1, gia1, gwa1, ka1, gb1, gib1, gwb1, kb1, va1⟩, h2, h3, e1, e2, e3⟩
 dsimp only at e1 e2 e3
 subst e1 e2 e3
 exact ⟨rfl, gia1, gwa1, ka1, gib1, gwb1, kb1, va1, h2, h3⟩
section
variable {E : Nat → Prop} {w W : World} {gc gi gw : Nat} {c : KCn} {k : KPt}
theorem wrF (F m : List Res) {t : Int} (h : MemX E w W (F ++ (cnH gc gi gw c k ++ m))) (hk : KOk k gi gw c.h) (hc : CI c t) (ht : t ≤ 1000000000000) (s : ByteArray) (hs : s.size ≤ 140737488351232) :
  Calls Try.prog 23 #[.pointer (some ⟨gc, 0, none⟩), .string s] W fun e W' => ∃ k', e = .returned (.tuple #[.int .i64 (cWrite c s).2.1, .int .i64 (cWrite c s).2.2]) ∧ MemX E w W' (F ++ (cnH gc gi gw (cWrite c s).1 k' ++ m)) ∧ KOk k' gi gw (cWrite c s).1.h := by
 have h9 := hc.cok (by omega)
 have h8 := h9.hb
 refine (cWrite_any gc gi gw c k (F ++ m) W (cn_at h) hk s hc.o (by omega) hs).mono ?_
 rintro e W' ⟨k', rfl, h2, hk'⟩
 exact ⟨k', rfl, cn_un h2, hk'⟩
theorem clF (F m : List Res) {t : Int} (h : MemX E w W (F ++ (cnH gc gi gw c k ++ m))) (hk : KOk k gi gw c.h) (hc : CI c t) (ht : t ≤ 1000000000000) :
  Calls Try.prog 29 #[.pointer (some ⟨gc, 0, none⟩)] W fun e W' => ∃ k', e = .returned (.int .i64 (cClose c).2) ∧ MemX E w W' (F ++ (cnH gc gi gw (cClose c).1 k' ++ m)) ∧ KOk k' gi gw (cClose c).1.h := by
 have h9 := hc.cok (by omega)
 have h8 := h9.hb
 refine (cClose_any gc gi gw c k (F ++ m) W (cn_at h) hk hc.o (by omega)).mono ?_
 rintro e W' ⟨k', rfl, h2, hk'⟩
 exact ⟨k', rfl, cn_un h2, hk'⟩
theorem rdF (F m : List Res) {t : Int} (h : MemX E w W (F ++ (cnH gc gi gw c k ++ m))) (hk : KOk k gi gw c.h) (hc : CI c t) (most : Int) (hm : -9223372036854775808 ≤ most) (hm' : most ≤ 9223372036854775807) :
  Calls Try.prog 26 #[.pointer (some ⟨gc, 0, none⟩), .int .i64 most] W fun e W' => e = .returned (.tuple #[.string (cRead c most).2.1, .bool (cRead c most).2.2.1, .int .i64 (cRead c most).2.2.2]) ∧ MemX E w W' (F ++ (cnH gc gi gw (cRead c most).1 k ++ m)) ∧ KOk k gi gw (cRead c most).1.h := by
 have hq : c.h ≠ none → IqOk (cQ c) := by
  intro hh
  obtain ⟨x, hx⟩ := Option.ne_none_iff_exists'.1 hh
  obtain ⟨q, d⟩ := x
  have hq : cQ c = q := by unfold cQ; rw [hx]
  rw [hq]
  exact (hc.hs q d hx).1
 refine (cRead_any gc gi gw c k (F ++ m) W (cn_at h) hk most hq hm hm').mono ?_
 rintro e W' ⟨rfl, h2, hk'⟩
 exact ⟨rfl, cn_un h2, hk'⟩
end
theorem wr_p0 {E : Nat → Prop} {w0 W : World} (gp ga gia gwa : Nat) (ka : KPt) (gb gib gwb : Nat) (kb : KPt) (va : Value) (x : KPr) (m : List Res) {t : Int} (hc : CI x.a t) (ht : t ≤ 1000000000000) (s : ByteArray) (hs : s.size ≤ 140737488351232) (h : MemX E w0 W (prM (⟨gp, ga, gia, gwa, ka, gb, gib, gwb, kb, va⟩ : KPl) x m)) (hok : KPl.ok (⟨gp, ga, gia, gwa, ka, gb, gib, gwb, kb, va⟩ : KPl) x) :
  Calls Try.prog 23 #[.pointer (some ⟨ga, 0, none⟩), .string s] W fun e W' => ∃ k', e = .returned (.tuple #[.int .i64 (cWrite x.a s).2.1, .int .i64 (cWrite x.a s).2.2]) ∧ MemX E w0 W' (prM (⟨gp, ga, gia, gwa, k', gb, gib, gwb, kb, va⟩ : KPl) (⟨(cWrite x.a s).1, x.b, x.p⟩ : KPr) m) ∧ KPl.ok (⟨gp, ga, gia, gwa, k', gb, gib, gwb, kb, va⟩ : KPl) (⟨(cWrite x.a s).1, x.b, x.p⟩ : KPr) := by
 refine (wrF [prR gp ga gb va x.p, arR va x.p.air] (cnH gb gib gwb x.b kb ++ m) h hok.1 hc ht s hs).mono ?_
 rintro e W' ⟨k', rfl, h2, hk⟩
 exact ⟨k', rfl, h2, ⟨hk, hok.2⟩⟩
theorem cl_p0 {E : Nat → Prop} {w0 W : World} (gp ga gia gwa : Nat) (ka : KPt) (gb gib gwb : Nat) (kb : KPt) (va : Value) (x : KPr) (m : List Res) {t : Int} (hc : CI x.a t) (ht : t ≤ 1000000000000) (h : MemX E w0 W (prM (⟨gp, ga, gia, gwa, ka, gb, gib, gwb, kb, va⟩ : KPl) x m)) (hok : KPl.ok (⟨gp, ga, gia, gwa, ka, gb, gib, gwb, kb, va⟩ : KPl) x) :
  Calls Try.prog 29 #[.pointer (some ⟨ga, 0, none⟩)] W fun e W' => ∃ k', e = .returned (.int .i64 (cClose x.a).2) ∧ MemX E w0 W' (prM (⟨gp, ga, gia, gwa, k', gb, gib, gwb, kb, va⟩ : KPl) (⟨(cClose x.a).1, x.b, x.p⟩ : KPr) m) ∧ KPl.ok (⟨gp, ga, gia, gwa, k', gb, gib, gwb, kb, va⟩ : KPl) (⟨(cClose x.a).1, x.b, x.p⟩ : KPr) := by
 refine (clF [prR gp ga gb va x.p, arR va x.p.air] (cnH gb gib gwb x.b kb ++ m) h hok.1 hc ht).mono ?_
 rintro e W' ⟨k', rfl, h2, hk⟩
 exact ⟨k', rfl, h2, ⟨hk, hok.2⟩⟩
theorem rd_p0 {E : Nat → Prop} {w0 W : World} (gp ga gia gwa : Nat) (ka : KPt) (gb gib gwb : Nat) (kb : KPt) (va : Value) (x : KPr) (m : List Res) {t : Int} (hc : CI x.a t) (most : Int) (hm : -9223372036854775808 ≤ most) (hm' : most ≤ 9223372036854775807) (h : MemX E w0 W (prM (⟨gp, ga, gia, gwa, ka, gb, gib, gwb, kb, va⟩ : KPl) x m)) (hok : KPl.ok (⟨gp, ga, gia, gwa, ka, gb, gib, gwb, kb, va⟩ : KPl) x) :
  Calls Try.prog 26 #[.pointer (some ⟨ga, 0, none⟩), .int .i64 most] W fun e W' => e = .returned (.tuple #[.string (cRead x.a most).2.1, .bool (cRead x.a most).2.2.1, .int .i64 (cRead x.a most).2.2.2]) ∧ MemX E w0 W' (prM (⟨gp, ga, gia, gwa, ka, gb, gib, gwb, kb, va⟩ : KPl) (⟨(cRead x.a most).1, x.b, x.p⟩ : KPr) m) ∧ KPl.ok (⟨gp, ga, gia, gwa, ka, gb, gib, gwb, kb, va⟩ : KPl) (⟨(cRead x.a most).1, x.b, x.p⟩ : KPr) := by
 refine (rdF [prR gp ga gb va x.p, arR va x.p.air] (cnH gb gib gwb x.b kb ++ m) h hok.1 hc most hm hm').mono ?_
 rintro e W' ⟨rfl, h2, hk⟩
 exact ⟨rfl, h2, ⟨hk, hok.2⟩⟩
theorem st_p0 {E : Nat → Prop} {w0 W : World} (gp ga gia gwa : Nat) (ka : KPt) (gb gib gwb : Nat) (kb : KPt) (va : Value) (x : KPr) (m : List Res) (h : MemX E w0 W (prM (⟨gp, ga, gia, gwa, ka, gb, gib, gwb, kb, va⟩ : KPl) x m)) :
  Calls Try.prog 16 #[.pointer (some ⟨ga, 0, none⟩)] W fun e W' => e = .returned (.int .i64 x.a.st) ∧ W = W' := stateF [prR gp ga gb va x.p, arR va x.p.air] (cnH gb gib gwb x.b kb ++ m) h
theorem wy_p0 {E : Nat → Prop} {w0 W : World} (gp ga gia gwa : Nat) (ka : KPt) (gb gib gwb : Nat) (kb : KPt) (va : Value) (x : KPr) (m : List Res) (h : MemX E w0 W (prM (⟨gp, ga, gia, gwa, ka, gb, gib, gwb, kb, va⟩ : KPl) x m)) :
  Calls Try.prog 17 #[.pointer (some ⟨ga, 0, none⟩)] W fun e W' => e = .returned (.int .i64 x.a.why) ∧ W = W' := whyF [prR gp ga gb va x.p, arR va x.p.air] (cnH gb gib gwb x.b kb ++ m) h
theorem wr_p1 {E : Nat → Prop} {w0 W : World} (gp ga gia gwa : Nat) (ka : KPt) (gb gib gwb : Nat) (kb : KPt) (va : Value) (x : KPr) (m : List Res) {t : Int} (hc : CI x.b t) (ht : t ≤ 1000000000000) (s : ByteArray) (hs : s.size ≤ 140737488351232) (h : MemX E w0 W (prM (⟨gp, ga, gia, gwa, ka, gb, gib, gwb, kb, va⟩ : KPl) x m)) (hok : KPl.ok (⟨gp, ga, gia, gwa, ka, gb, gib, gwb, kb, va⟩ : KPl) x) :
  Calls Try.prog 23 #[.pointer (some ⟨gb, 0, none⟩), .string s] W fun e W' => ∃ k', e = .returned (.tuple #[.int .i64 (cWrite x.b s).2.1, .int .i64 (cWrite x.b s).2.2]) ∧ MemX E w0 W' (prM (⟨gp, ga, gia, gwa, ka, gb, gib, gwb, k', va⟩ : KPl) (⟨x.a, (cWrite x.b s).1, x.p⟩ : KPr) m) ∧ KPl.ok (⟨gp, ga, gia, gwa, ka, gb, gib, gwb, k', va⟩ : KPl) (⟨x.a, (cWrite x.b s).1, x.p⟩ : KPr) := by
 refine (wrF (prR gp ga gb va x.p :: arR va x.p.air :: cnH ga gia gwa x.a ka) m h hok.2 hc ht s hs).mono ?_
 rintro e W' ⟨k', rfl, h2, hk⟩
 exact ⟨k', rfl, h2, ⟨hok.1, hk⟩⟩
theorem cl_p1 {E : Nat → Prop} {w0 W : World} (gp ga gia gwa : Nat) (ka : KPt) (gb gib gwb : Nat) (kb : KPt) (va : Value) (x : KPr) (m : List Res) {t : Int} (hc : CI x.b t) (ht : t ≤ 1000000000000) (h : MemX E w0 W (prM (⟨gp, ga, gia, gwa, ka, gb, gib, gwb, kb, va⟩ : KPl) x m)) (hok : KPl.ok (⟨gp, ga, gia, gwa, ka, gb, gib, gwb, kb, va⟩ : KPl) x) :
  Calls Try.prog 29 #[.pointer (some ⟨gb, 0, none⟩)] W fun e W' => ∃ k', e = .returned (.int .i64 (cClose x.b).2) ∧ MemX E w0 W' (prM (⟨gp, ga, gia, gwa, ka, gb, gib, gwb, k', va⟩ : KPl) (⟨x.a, (cClose x.b).1, x.p⟩ : KPr) m) ∧ KPl.ok (⟨gp, ga, gia, gwa, ka, gb, gib, gwb, k', va⟩ : KPl) (⟨x.a, (cClose x.b).1, x.p⟩ : KPr) := by
 refine (clF (prR gp ga gb va x.p :: arR va x.p.air :: cnH ga gia gwa x.a ka) m h hok.2 hc ht).mono ?_
 rintro e W' ⟨k', rfl, h2, hk⟩
 exact ⟨k', rfl, h2, ⟨hok.1, hk⟩⟩
theorem rd_p1 {E : Nat → Prop} {w0 W : World} (gp ga gia gwa : Nat) (ka : KPt) (gb gib gwb : Nat) (kb : KPt) (va : Value) (x : KPr) (m : List Res) {t : Int} (hc : CI x.b t) (most : Int) (hm : -9223372036854775808 ≤ most) (hm' : most ≤ 9223372036854775807) (h : MemX E w0 W (prM (⟨gp, ga, gia, gwa, ka, gb, gib, gwb, kb, va⟩ : KPl) x m)) (hok : KPl.ok (⟨gp, ga, gia, gwa, ka, gb, gib, gwb, kb, va⟩ : KPl) x) :
  Calls Try.prog 26 #[.pointer (some ⟨gb, 0, none⟩), .int .i64 most] W fun e W' => e = .returned (.tuple #[.string (cRead x.b most).2.1, .bool (cRead x.b most).2.2.1, .int .i64 (cRead x.b most).2.2.2]) ∧ MemX E w0 W' (prM (⟨gp, ga, gia, gwa, ka, gb, gib, gwb, kb, va⟩ : KPl) (⟨x.a, (cRead x.b most).1, x.p⟩ : KPr) m) ∧ KPl.ok (⟨gp, ga, gia, gwa, ka, gb, gib, gwb, kb, va⟩ : KPl) (⟨x.a, (cRead x.b most).1, x.p⟩ : KPr) := by
 refine (rdF (prR gp ga gb va x.p :: arR va x.p.air :: cnH ga gia gwa x.a ka) m h hok.2 hc most hm hm').mono ?_
 rintro e W' ⟨rfl, h2, hk⟩
 exact ⟨rfl, h2, ⟨hok.1, hk⟩⟩
theorem st_p1 {E : Nat → Prop} {w0 W : World} (gp ga gia gwa : Nat) (ka : KPt) (gb gib gwb : Nat) (kb : KPt) (va : Value) (x : KPr) (m : List Res) (h : MemX E w0 W (prM (⟨gp, ga, gia, gwa, ka, gb, gib, gwb, kb, va⟩ : KPl) x m)) :
  Calls Try.prog 16 #[.pointer (some ⟨gb, 0, none⟩)] W fun e W' => e = .returned (.int .i64 x.b.st) ∧ W = W' := stateF (prR gp ga gb va x.p :: arR va x.p.air :: cnH ga gia gwa x.a ka) m h
theorem wy_p1 {E : Nat → Prop} {w0 W : World} (gp ga gia gwa : Nat) (ka : KPt) (gb gib gwb : Nat) (kb : KPt) (va : Value) (x : KPr) (m : List Res) (h : MemX E w0 W (prM (⟨gp, ga, gia, gwa, ka, gb, gib, gwb, kb, va⟩ : KPl) x m)) :
  Calls Try.prog 17 #[.pointer (some ⟨gb, 0, none⟩)] W fun e W' => e = .returned (.int .i64 x.b.why) ∧ W = W' := whyF (prR gp ga gb va x.p :: arR va x.p.air :: cnH ga gia gwa x.a ka) m h
end Go.Proofs.Ytfpifahkpkjfgaa
