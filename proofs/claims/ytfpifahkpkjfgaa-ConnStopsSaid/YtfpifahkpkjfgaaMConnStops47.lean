/- What ConnStops needs, a part: CnKm, CnKd, CnKc, CnKe. -/
import Derived.Test.YtfpifahkpkjfgaaMConnStops46
namespace Go.Proofs.Ytfpifahkpkjfgaa
open Go.RowKit Go.Lib
set_option linter.unusedVariables false
set_option linter.unusedSimpArgs false
section
variable {iss irs : Int} {N : Nat} {t : Int} {x : KPr} {q : IQ} {M V D : Int} {R : Option Int} {W : KWd} {mr : Int} {O : OQ} {U w ℓ E Q : Int}
theorem pb_ok (irs : Int) : okP (adB irs).lp ∧ okP (adB irs).rp := ⟨(by decide : (0 : Int) < 80 ∧ (80 : Int) ≤ 65535), (by decide : (0 : Int) < 40000 ∧ (40000 : Int) ≤ 65535)⟩
theorem rnd_mk {n : Nat} {x1 x2 : KPr} {t2 : Int} (hP : PI iss irs N t x) (ht : t ≤ 200000) (k : Nat) (h1 : SOk ⟨cTick x.a 3, cTick x.b 3, x.p⟩ x1) (hk : k ≤ 9001) (h2 : Qx k x1 x2) (hP2 : PI iss irs N t2 x2) (ht2 : t ≤ t2 ∧ t2 ≤ 1000000) (hair : x2.p.air = [])
  (hr : FR (adA iss) (adB irs) x2.b M V D R W mr false O false false) (hM : M ≤ D + 2048) (ha : (cOut x2.a).2 = [])
  (hgo : ∀ z, PI iss irs N (t2 + 1) z → z.a = (cOut x2.a).1 → z.p.air = [] → FR (adA iss) (adB irs) z.b M V (D + min7 (M - D)) R W mr false O false false → z.b.clock = -1 → z.b.now = x2.b.now → z.p.g1 = z.p.w0 ∨ (z.p.g1 ≠ z.p.w0 ∧ Rnd n z)) (h0 : x2.a.st ≠ 0) (hcl : (cOut x2.a).1.o.cl = false) (hst : (cOut x2.a).1.st ≠ 0) : Rnd (n + 1) x := by
 obtain ⟨r1, r2, r3⟩ := half2 hP2 (by omega) hair hr hM ha
 have hna := hP.na
 have hnb := hP.nb
 refine ⟨x1, x2, t2, k, by omega, hP.ciA.mono ht2.1, hP.ciB.mono ht2.1, by omega, by omega, h1, hk, h2, hP2.ciB, r1, r2, ⟨iss, irs, N, hP2⟩, fun o => ?_⟩
 obtain ⟨z, s1, s2, s3, s4, s5, s6, s7, s8⟩ := r3 o
 obtain ⟨q', hh, _⟩ := s5.hq
 obtain ⟨_, _, _, e1, e2⟩ := got_is s2 (by rw [s3]; exact hst) (by rw [s3]; exact hcl) hh
 exact ⟨z, s1, s4, hgo z s2 s3 s4 s5 s6 s7, e1, e2⟩
theorem tick_pi (hP : PI iss irs N t x) (ht : t ≤ 200000) : PI iss irs N (t + 1) ⟨cTick x.a 3, cTick x.b 3, x.p⟩ := hP.tick 3 ⟨by decide, by decide⟩ (by omega)
theorem fr_room (h : FR (adA iss) (adB irs) x.b M V D R W mr false O false false) (hM : M ≤ D + 2048) : 0 ≤ 2048 - (M - (if false = true then (1 : Int) else 0) - D) ∧ 2048 - (M - (if false = true then (1 : Int) else 0) - D) ≤ 65535 := by
 obtain ⟨q, hh, ok, ho, hrd, hz, hD, hD1⟩ := h.hq
 simp; omega
theorem rnd_still {n : Nat} {a' a'' : KCn} (hP : PI iss irs N t x) (ht : t ≤ 200000) (hair : x.p.air = []) (hta : cTick x.a 3 = a') (h1 : cOut a' = (a'', [])) (h2 : cOut a'' = (a'', [])) (h0 : a''.st ≠ 0) (hcl : a''.o.cl = false)
  (hr : FR (adA iss) (adB irs) x.b M V D R W mr false O false false) (hck : x.b.clock = -1) (hM : M ≤ D + 2048)
  (hgo : ∀ z, PI iss irs N (t + 2) z → z.a = a'' → z.p.air = [] → FR (adA iss) (adB irs) z.b M V (D + min7 (M - D)) R W mr false O false false → z.b.clock = -1 → z.p.g1 = z.p.w0 ∨ (z.p.g1 ≠ z.p.w0 ∧ Rnd n z)) : Rnd (n + 1) x := by
 obtain ⟨b1, b2⟩ := hr.tick hck 3
 have p1 := tick_pi hP ht
 obtain ⟨c1, c2⟩ := b2.none (fr_room hr hM) (pb_ok irs)
 have ha1 : (cOut (cTick x.a 3)).1 = a'' := by rw [hta, h1]
 have ha2 : (cOut (cTick x.a 3)).2 = [] := by rw [hta, h1]
 obtain ⟨s1, s2⟩ := hush (x := ⟨cTick x.a 3, cTick x.b 3, x.p⟩) p1 (by omega) ha2 c2
 dsimp only at s1 s2
 rw [ha1] at s1 s2
 refine rnd_mk hP ht 0 s1 (by decide) ⟨rfl, hair⟩ s2 ⟨by omega, by omega⟩ hair c1 hM ?_ ?_ h0 ?_ ?_
 ·show (cOut a'').2 = []; rw [h2]
 ·intro z k1 k2 k3 k4 k5 k6
  refine hgo z ?_ ?_ k3 k4 k5
  ·rw [show t + 2 = t + 1 + 1 by omega]; exact k1
  ·rw [k2]; show (cOut a'').1 = a''; rw [h2]
 ·show (cOut a'').1.o.cl = false; rw [h2]; exact hcl
 ·show (cOut a'').1.st ≠ 0; rw [h2]; exact h0
theorem rnd_rest : ∀ (n : Nat) (t : Int) (x : KPr) (D : Int), PI iss irs N t x → 0 ≤ t ∧ t + 10 * n ≤ 200000 → x.p.air = [] → FSl (adA iss) (adB irs) x.a q V Q Q w E ℓ → qEnd x.a.o = Q → x.a.shut = false → x.a.clock = -1 →
    FR (adA iss) (adB irs) x.b Q V D R W mr false O false false → x.b.clock = -1 → Q ≤ D + 2048 → Q - D ≤ 700 * ((n : Int) + 1) → Rnd (n + 1) x := by
  intro n
  induction n with
  | zero =>
    intro t x D hP ht hair hs hq hsh hck hr hcb hM hn
    obtain ⟨e1, f1⟩ := hs.tick hq hck 3
    have hq1 : qEnd (cTick x.a 3).o = Q := by rw [e1]; exact hq
    have e2 := f1.idle hq1
    have e3 : ({ cTick x.a 3 with clock := -1 } : KCn) = cTick x.a 3 := by rw [e1]
    rw [e3] at e2
    have hD := (hr.hq).choose_spec.2.2.2.2.2
    refine rnd_still hP (by omega) hair rfl e2 e2 f1.st0.1 (f1.cl0 (by rw [e1]; exact hsh)) hr hcb hM ?_
    intro z k1 k2 k3 k4 k5
    left
    obtain ⟨q', hh, _, _, hrd, _⟩ := k4.hq
    obtain ⟨g1, _⟩ := got_is k1 (by rw [k2]; exact f1.st0.1) (by rw [k2]; exact f1.cl0 (by rw [e1]; exact hsh)) hh
    refine g1.2 ?_
    rw [hrd, k2, hq1]
    unfold min7
    split <;> omega
  | succ n ih =>
    intro t x D hP ht hair hs hq hsh hck hr hcb hM hn
    obtain ⟨e1, f1⟩ := hs.tick hq hck 3
    have hq1 : qEnd (cTick x.a 3).o = Q := by rw [e1]; exact hq
    have e2 := f1.idle hq1
    have e3 : ({ cTick x.a 3 with clock := -1 } : KCn) = cTick x.a 3 := by rw [e1]
    rw [e3] at e2
    have hD := (hr.hq).choose_spec.2.2.2.2.2
    have hsh1 : (cTick x.a 3).shut = false := by rw [e1]; exact hsh
    refine rnd_still hP (by omega) hair rfl e2 e2 f1.st0.1 (f1.cl0 hsh1) hr hcb hM ?_
    intro z k1 k2 k3 k4 k5
    obtain ⟨q', hh, _, _, hrd, _⟩ := k4.hq
    obtain ⟨g1, _⟩ := got_is k1 (by rw [k2]; exact f1.st0.1) (by rw [k2]; exact f1.cl0 hsh1) hh
    by_cases hc : D + min7 (Q - D) = Q
    · exact .inl (g1.2 (by rw [hrd, k2, hq1, hc]))
    · right
      refine ⟨fun e => hc (by have := g1.1 e; rw [hrd, k2, hq1] at this; exact this), ?_⟩
      have hm7 : min7 (Q - D) = 700 := by
        unfold min7 at hc ⊢
        split at hc
        · rw [if_pos (by assumption)]
        · omega
      refine ih (t + 2) z (D + min7 (Q - D)) k1 ⟨by omega, by omega⟩ k3 (by rw [k2]; exact f1) (by rw [k2]; exact hq1) (by rw [k2]; exact hsh1) (by rw [k2, e1]) k4 k5 (by omega) (by omega)
theorem tick_probe {c : KCn} (h0 : c.st ≠ 0) (h9 : c.st ≠ 9) (hc : 0 ≤ c.clock) (n : Int) (hv : valZ c.tm.k c.tm.m c.tm.s c.tm.d ≤ c.now + n - c.clock) (hg : c.gone ≠ 8) (hn : 0 ≤ c.now + n) (hf : c.o.cur = c.o.una) (hw : cWaits c) :
  cTick c n = { c with now := c.now + n, gone := c.gone + 1, tm := { c.tm with d := if c.tm.d < 6 then c.tm.d + 1 else 6 }, clock := c.now + n, probe := true } := by
 have e : cTick c n = cSettle { c with now := c.now + n, gone := c.gone + 1, tm := { c.tm with d := if c.tm.d < 6 then c.tm.d + 1 else 6 }, clock := c.now + n, probe := true } := by
  unfold cTick
  dsimp only
  rw [if_neg (fun e => h9 e.1), if_pos ⟨hc, hv⟩]
  unfold cLate
  dsimp only
  rw [if_neg hg, if_pos (by omega)]
 rw [e]
 exact settle_id h0 h9 hw hn
theorem tick_wait {c : KCn} (h0 : c.st ≠ 0) (h9 : c.st ≠ 9) (hc : 0 ≤ c.clock) (n : Int) (hv : c.now + n - c.clock < valZ c.tm.k c.tm.m c.tm.s c.tm.d) (hw : cWaits c) : cTick c n = { c with now := c.now + n } := by
 have e : cTick c n = cSettle { c with now := c.now + n } := by
  unfold cTick
  dsimp only
  rw [if_neg (fun e => h9 e.1), if_neg (by rintro ⟨_, h⟩; omega)]
 rw [e]
 exact settle_id (c := { c with now := c.now + n }) h0 h9 hw hc
theorem FSl.wtS {A B : KAd} {s : KCn} (h : FSl A B s q V U U w U ℓ) (hq : U < qEnd s.o) (S : Int) : cWaits { s with o := { s.o with sent := S } } := by
 have h1 := h.una
 have h2 := h.cur
 have h3 := h.u1
 have h4 := h.wnd
 right
 refine ⟨?_, ?_, ?_⟩
 ·show s.wnd = 0; omega
 ·show 0 < s.o.una; omega
 ·show s.o.cur < qEnd s.o; omega
theorem sends_one {g : KSeg} (hP : PI iss irs N t x) (ht : t ≤ 100000000) (hair : x.p.air = []) (ha : (cOut x.a).2 = [g] ∧ (cOut x.b).2 = [] ∨ (cOut x.a).2 = [] ∧ (cOut x.b).2 = [g]) :
  ∃ z, SOk x z ∧ PI iss irs N t z ∧ z.a = (cOut x.a).1 ∧ z.b = (cOut x.b).1 ∧ z.p.air = [g] ∧ sends x = some z := by
 obtain ⟨z, h1, h2, h3, _⟩ := sok_same hP ht
 obtain ⟨k1, k2, k3, _⟩ := sends_outs h3
 refine ⟨z, h1, h2, k1, k2, ?_, h3⟩
 rcases ha with ⟨e1, e2⟩ | ⟨e1, e2⟩ <;> rw [k3, e1, e2, hair] <;> rfl
end
def sumZ : List (Bool × Int) → Int
 | [] => 0
 | p :: z => p.2 + sumZ z
def oddZ (m : Int) : List (Bool × Int) → Int
 | [] => 0
 | p :: z => (if p.2 = m then 0 else 1) + oddZ m z
def InZ (m : Int) (z : List (Bool × Int)) : Prop := ∀ p ∈ z, 1 ≤ p.2 ∧ p.2 ≤ m
theorem sumZ_app : ∀ (z z' : List (Bool × Int)), sumZ (z ++ z') = sumZ z + sumZ z'
 | [], z' => by simp [sumZ]
 | p :: z, z' => by simp only [List.cons_append, sumZ, sumZ_app z z']; omega
theorem oddZ_app (m : Int) : ∀ (z z' : List (Bool × Int)), oddZ m (z ++ z') = oddZ m z + oddZ m z'
 | [], z' => by simp [oddZ]
 | p :: z, z' => by simp only [List.cons_append, oddZ, oddZ_app m z z']; omega
theorem oddZ_0 (m : Int) : ∀ (z : List (Bool × Int)), 0 ≤ oddZ m z
 | [] => Int.le_refl 0
 | p :: z => by have := oddZ_0 m z; simp only [oddZ]; split <;> omega
theorem lenZ {m f : Int} (hf : 1 ≤ f) (hfm : f ≤ m) : ∀ {z : List (Bool × Int)}, InZ m z → f * (z.length : Int) ≤ sumZ z + f * oddZ m z
  | [], h => by simp [sumZ, oddZ]
  | p :: z, h => by
    have h1 := lenZ hf hfm (z := z) (fun q hq => h q (List.mem_cons_of_mem _ hq))
    have h2 := h p (List.mem_cons_self ..)
    have e : f * (((p :: z).length : Nat) : Int) = f * (z.length : Int) + f := by
      rw [List.length_cons]; push_cast; rw [Int.mul_add, Int.mul_one]
    rw [e]
    simp only [sumZ, oddZ]
    rw [Int.mul_add]
    split
    · rw [Int.mul_zero]; omega
    · rw [Int.mul_one]; omega
theorem sumZ_0 {m : Int} : ∀ {z : List (Bool × Int)}, InZ m z → 0 ≤ sumZ z
  | [], h => Int.le_refl 0
  | p :: z, h => by
    have h1 := sumZ_0 (z := z) (fun q hq => h q (List.mem_cons_of_mem _ hq))
    have h2 := h p (List.mem_cons_self ..)
    simp only [sumZ]
    omega
def tg (l : List Int) : List (Bool × Int) := l.map fun k => (true, k)
theorem cut_is {m : Int} (hm : 1 ≤ m) : ∀ (f : Nat) (n : Int), 0 ≤ n → n ≤ f → InZ m (tg (cutZ f m n)) ∧ sumZ (tg (cutZ f m n)) = n ∧ oddZ m (tg (cutZ f m n)) ≤ 1 ∧ (n = 2 * m → oddZ m (tg (cutZ f m n)) = 0) ∧ (n = m → oddZ m (tg (cutZ f m n)) = 0)
  | 0, n, h, h2 => by
    have : n = 0 := by omega
    subst this
    exact ⟨(fun p hp => by cases hp), rfl, (by show (0 : Int) ≤ 1; decide), fun e => rfl, fun e => rfl⟩
  | f + 1, n, h, h2 => by
    unfold cutZ
    by_cases h0 : n ≤ 0
    · rw [if_pos h0]
      have : n = 0 := by omega
      subst this
      exact ⟨(fun p hp => by cases hp), rfl, by show (0 : Int) ≤ 1; decide, fun e => rfl, fun e => rfl⟩
    · rw [if_neg h0]
      by_cases h1 : m < n
      · rw [if_pos h1]
        obtain ⟨i1, i2, i3, i4, i5⟩ := cut_is hm f (n - m) (by omega) (by omega)
        refine ⟨?_, ?_, ?_, ?_, ?_⟩
        · intro p hp
          rcases List.mem_cons.1 hp with e | e
          · subst e; exact ⟨hm, Int.le_refl m⟩
          · exact i1 p e
        · show m + sumZ (tg (cutZ f m (n - m))) = n
          rw [i2]; omega
        · show (if m = m then (0 : Int) else 1) + oddZ m (tg (cutZ f m (n - m))) ≤ 1
          rw [if_pos rfl]; omega
        · intro e
          show (if m = m then (0 : Int) else 1) + oddZ m (tg (cutZ f m (n - m))) = 0
          rw [if_pos rfl, i5 (by omega)]; rfl
        · intro e; omega
      · rw [if_neg h1]
        refine ⟨?_, ?_, ?_, ?_, ?_⟩
        · intro p hp
          have : p = (true, n) := by simpa [tg] using hp
          subst this
          exact ⟨by show 1 ≤ n; omega, by show n ≤ m; omega⟩
        · show n + 0 = n; omega
        · show (if n = m then (0 : Int) else 1) + 0 ≤ 1
          split <;> omega
        · intro e; omega
        · intro e
          show (if n = m then (0 : Int) else 1) + 0 = 0
          rw [if_pos e]; rfl
structure J1 (m L : Int) (x : MS) : Prop where
 inz : InZ m x.Z
 odd : oddZ m x.Z ≤ (if x.C = L then 2 else 1)
 sum : sumZ x.Z = x.C - x.U
 w : x.w = 2 * m + x.U
 cl : x.C ≤ L
 ex : x.C = L ∨ x.C = x.U + x.w
 cw : x.C ≤ x.U + x.w
 u1 : 1 ≤ x.U
theorem J1.len {m L : Int} {x : MS} (h : J1 m L x) (hm : 8 ≤ m ∧ m ≤ 1000) (hL : L ≤ 2049) : x.Z.length ≤ 198 := by
 have h1 := h.odd
 have h2 := h.sum
 have h3 := h.w
 have h4 := h.cl
 have h5 := h.cw
 have h6 := h.u1
 have ho : oddZ m x.Z ≤ 2 := by split at h1 <;> omega
 by_cases hc : m < 11
 ·have := lenZ (m := m) (f := 8) (by decide) (by omega) h.inz
  omega
 ·have := lenZ (m := m) (f := 11) (by decide) (by omega) h.inz
  omega
theorem J1_keeps {m L : Int} (hm : 8 ≤ m ∧ m ≤ 1000) (hL : L ≤ 2049) : MKeeps m 65535 L (J1 m L) := by
  intro x hj hne
  suffices h : J1 m L (mstep m 65535 L x) from ⟨h.len hm hL, h⟩
  obtain ⟨Z, w, U, C⟩ := x
  obtain ⟨j1, j2, j3, j4, j5, j6, j7, j8⟩ := hj
  dsimp only at j1 j2 j3 j4 j5 j6 j7 j8
  cases Z with
  | nil => exact absurd rfl hne
  | cons t Z =>
    obtain ⟨b, n⟩ := t
    have hn := j1 (b, n) (List.mem_cons_self ..)
    have jz : InZ m Z := fun p hp => j1 p (List.mem_cons_of_mem _ hp)
    dsimp only at hn
    simp only [oddZ] at j2
    simp only [sumZ] at j3
    have hs0 := sumZ_0 jz
    cases b with
    | true =>
      refine ⟨?_, ?_, ?_, j4, j5, j6, j7, j8⟩
      · intro p hp
        rcases List.mem_append.1 hp with e | e
        · exact jz p e
        · rw [List.mem_singleton.1 e]; exact hn
      · show oddZ m (Z ++ [(false, n)]) ≤ (if C = L then 2 else 1)
        rw [oddZ_app]
        simp only [oddZ]
        omega
      · show sumZ (Z ++ [(false, n)]) = C - U
        rw [sumZ_app]
        simp only [sumZ]
        omega
    | false =>
      have hw' : ackZ m w 65535 n = w + n := by
        unfold ackZ minZ
        rw [if_pos (show w < 65535 by omega)]
        split <;> split <;> omega
      have e : mstep m 65535 L ⟨(false, n) :: Z, w, U, C⟩ = ⟨Z ++ tg (cutZ 2100 m (upTo L (U + n + (w + n)) C - C)), w + n, U + n, upTo L (U + n + (w + n)) C⟩ := by
        rw [← hw']; rfl
      rw [e]
      obtain ⟨C', hC'⟩ : ∃ z, z = upTo L (U + n + (w + n)) C := ⟨_, rfl⟩
      have hup := upTo_bd L (U + n + (w + n)) C j5
      rw [← hC'] at hup ⊢
      have hcc : (C' = L ∨ C' = U + n + (w + n)) ∧ C' ≤ U + n + (w + n) ∧ (C' = C ∨ C' = L ∨ C' = C + 2 * n) := by
        rw [hC']
        unfold upTo
        by_cases h1 : U + n + (w + n) < L
        · rw [if_pos h1]
          by_cases h2 : C < U + n + (w + n)
          · rw [if_pos h2]; omega
          · rw [if_neg h2]; omega
        · rw [if_neg h1]
          by_cases h2 : C < L
          · rw [if_pos h2]; omega
          · rw [if_neg h2]; omega
      obtain ⟨c1, c2, c3, c4, c5⟩ := cut_is (m := m) (by omega) 2100 (C' - C) (by omega) (by omega)
      refine ⟨?_, ?_, ?_, ?_, hup.2, hcc.1, hcc.2.1, ?_⟩
      · intro p hp
        rcases List.mem_append.1 hp with e | e
        · exact jz p e
        · exact c1 p e
      · show oddZ m (Z ++ tg (cutZ 2100 m (C' - C))) ≤ (if C' = L then 2 else 1)
        rw [oddZ_app]
        have hz := oddZ_0 m Z
        by_cases hCL : C = L
        · have h0 : C' = L := by omega
          have h1 : cutZ 2100 m (C' - C) = [] := by
            unfold cutZ; rw [if_pos (by omega)]
          rw [if_pos hCL] at j2
          rw [if_pos h0, h1]
          show oddZ m Z + 0 ≤ 2
          split at j2 <;> omega
        · rw [if_neg hCL] at j2
          by_cases h0 : C' = L
          · rw [if_pos h0]; split at j2 <;> omega
          · rw [if_neg h0]
            by_cases hnm : n = m
            · rw [if_pos hnm] at j2
              have h5 : C' - C = 2 * m ∨ C' - C = 0 := by omega
              rcases h5 with h5 | h5
              · have := c4 h5; omega
              · have h1 : cutZ 2100 m (C' - C) = [] := by
                  unfold cutZ; rw [if_pos (by omega)]
                rw [h1]
                show oddZ m Z + 0 ≤ 1
                omega
            · rw [if_neg hnm] at j2; omega
      · show sumZ (Z ++ tg (cutZ 2100 m (C' - C))) = C' - (U + n)
        rw [sumZ_app, c2]; omega
      · show w + n = 2 * m + (U + n); omega
      · show 1 ≤ U + n; omega
theorem J1_start {m L U : Int} (hm : 8 ≤ m ∧ m ≤ 1000) (hL : L ≤ 2049) (hU : 1 ≤ U) (hUL : U ≤ L) : J1 m L (mstart m L (2 * m + U) U) := by
 have hup := upTo_bd L (U + (2 * m + U)) U hUL
 obtain ⟨C', hC'⟩ : ∃ z, z = upTo L (U + (2 * m + U)) U := ⟨_, rfl⟩
 have hcc : (C' = L ∨ C' = U + (2 * m + U)) ∧ C' ≤ U + (2 * m + U) := by
  rw [hC']
  unfold upTo
  by_cases h1 : U + (2 * m + U) < L
  ·rw [if_pos h1]
   by_cases h2 : U < U + (2 * m + U)
   ·rw [if_pos h2]; omega
   ·omega
  ·rw [if_neg h1]
   by_cases h2 : U < L
   ·rw [if_pos h2]; omega
   ·rw [if_neg h2]; omega
 have e : mstart m L (2 * m + U) U = ⟨tg (cutZ 2100 m (C' - U)), 2 * m + U, U, C'⟩ := by
  rw [hC']; rfl
 rw [← hC'] at hup
 rw [e]
 obtain ⟨c1, c2, c3, c4, c5⟩ := cut_is (m := m) (by omega) 2100 (C' - U) (by omega) (by omega)
 refine ⟨c1, ?_, c2, rfl, hup.2, hcc.1, hcc.2, hU⟩
 show oddZ m (tg (cutZ 2100 m (C' - U))) ≤ (if C' = L then 2 else 1)
 split <;> omega
def mok : Nat → Int → Int → Int → MS → Bool
 | 0, _, _, _, x => x.Z.isEmpty
 | f + 1, m, l, L, x => x.Z.isEmpty || (decide ((mstep m l L x).Z.length ≤ 198) && mok f m l L (mstep m l L x))
def mall (F : Nat) : Nat → Nat → Bool
 | 0, _ => true
 | k + 1, m0 => (decide ((mstart ((m0 + k : Nat) : Int) 4001 ((m0 + k + 1 : Nat) : Int) 2050).Z.length ≤ 198) && mok F ((m0 + k : Nat) : Int) ((2 * (m0 + k) : Nat) : Int) 4001 (mstart ((m0 + k : Nat) : Int) 4001 ((m0 + k + 1 : Nat) : Int) 2050)) && mall F k m0
theorem mall_a : mall 3000 5 8 = true := by decide +kernel
theorem mall_b : mall 3000 8 13 = true := by decide +kernel
theorem mall_c : mall 3000 20 21 = true := by decide +kernel
theorem mall_d : mall 3000 60 41 = true := by decide +kernel
theorem mall_e : mall 3000 900 101 = true := by decide +kernel
theorem mall_get {F m0 : Nat} (k : Nat) : mall F k m0 = true → ∀ m : Nat, m0 ≤ m → m < m0 + k → (mstart (m : Int) 4001 ((m : Int) + 1) 2050).Z.length ≤ 198 ∧ mok F (m : Int) (2 * (m : Int)) 4001 (mstart (m : Int) 4001 ((m : Int) + 1) 2050) = true := by
  induction k with
  | zero => intro h m h1 h2; omega
  | succ k ih =>
    intro h m h1 h2
    unfold mall at h
    rw [Bool.and_eq_true, Bool.and_eq_true] at h
    obtain ⟨⟨h3, h4⟩, h5⟩ := h
    by_cases hm : m = m0 + k
    · subst hm
      exact ⟨of_decide_eq_true h3, h4⟩
    · exact ih h5 m h1 (by omega)
theorem m_all {m : Int} (hm : 8 ≤ m ∧ m ≤ 1000) : (mstart m 4001 (m + 1) 2050).Z.length ≤ 198 ∧ mok 3000 m (2 * m) 4001 (mstart m 4001 (m + 1) 2050) = true := by
 obtain ⟨k, rfl⟩ : ∃ k : Nat, m = k := ⟨m.toNat, by omega⟩
 by_cases h1 : k < 13
 ·exact mall_get _ mall_a k (by omega) (by omega)
 by_cases h2 : k < 21
 ·exact mall_get _ mall_b k (by omega) (by omega)
 by_cases h3 : k < 41
 ·exact mall_get _ mall_c k (by omega) (by omega)
 by_cases h4 : k < 101
 ·exact mall_get _ mall_d k (by omega) (by omega)
 ·exact mall_get _ mall_e k (by omega) (by omega)
theorem cut_mono {m : Int} (hm : 1 ≤ m) : ∀ (f : Nat) (n n' : Int), n ≤ n' → (cutZ f m n).length ≤ (cutZ f m n').length
  | 0, n, n', h => Nat.le_refl _
  | f + 1, n, n', h => by
    unfold cutZ
    by_cases h1 : n ≤ 0
    · rw [if_pos h1]; exact Nat.zero_le _
    · rw [if_neg h1, if_neg (show ¬ n' ≤ 0 by omega)]
      by_cases h2 : m < n
      · rw [if_pos h2, if_pos (show m < n' by omega), List.length_cons, List.length_cons]
        have := cut_mono hm f (n - m) (n' - m) (by omega)
        omega
      · rw [if_neg h2]
        split
        · rw [List.length_cons, List.length_cons]; simp
        · exact Nat.le_refl _
theorem cut_none (f : Nat) {m n : Int} (h : n ≤ 0) : cutZ f m n = [] := by
 cases f with
 | zero => rfl
 | succ f => unfold cutZ; rw [if_pos h]
def J3 (m ℓ L : Int) (x : MS) : Prop := (x.C < L ∧ ∃ f, mok f m ℓ 4001 x = true) ∨ (x.C = L ∧ x.Z.length ≤ 198)
theorem J3_keeps {m ℓ L : Int} (hm : 1 ≤ m) (hL : L ≤ 4001) : MKeeps m ℓ L (J3 m ℓ L) := by
  intro x hj hne
  obtain ⟨Z, w, U, C⟩ := x
  cases Z with
  | nil => exact absurd rfl hne
  | cons t Z =>
    obtain ⟨b, n⟩ := t
    rcases hj with ⟨h1, f, h2⟩ | ⟨h1, h2⟩
    · dsimp only at h1
      cases f with
      | zero => cases h2
      | succ f =>
        unfold mok at h2
        rw [Bool.or_eq_true, Bool.and_eq_true] at h2
        rcases h2 with h2 | ⟨h2, h3⟩
        · cases h2
        replace h2 := of_decide_eq_true h2
        cases b with
        | true => exact ⟨h2, .inl ⟨h1, f, h3⟩⟩
        | false =>
          obtain ⟨w', hw'⟩ : ∃ z, z = ackZ m w ℓ n := ⟨_, rfl⟩
          have e : ∀ L, mstep m ℓ L ⟨(false, n) :: Z, w, U, C⟩ = ⟨Z ++ (cutZ 2100 m (upTo L (U + n + w') C - C)).map (fun k => (true, k)), w', U + n, upTo L (U + n + w') C⟩ := by
            intro L; rw [hw']; rfl
          rw [e] at h2 h3
          rw [e]
          by_cases hlt : U + n + w' < L
          · have hu : upTo L (U + n + w') C = upTo 4001 (U + n + w') C := by
              unfold upTo
              rw [if_pos hlt, if_pos (show U + n + w' < 4001 by omega)]
            rw [hu]
            refine ⟨h2, .inl ⟨?_, f, h3⟩⟩
            show upTo 4001 (U + n + w') C < L
            unfold upTo
            rw [if_pos (show U + n + w' < 4001 by omega)]
            split <;> omega
          · have hu : upTo L (U + n + w') C = L := by
              unfold upTo
              rw [if_neg hlt, if_pos h1]
            have hu2 : L ≤ upTo 4001 (U + n + w') C := by
              unfold upTo
              by_cases h5 : U + n + w' < 4001
              · rw [if_pos h5]; split <;> omega
              · rw [if_neg h5]; split <;> omega
            rw [hu]
            have hl : (Z ++ (cutZ 2100 m (L - C)).map (fun k => (true, k))).length ≤ 198 := by
              have hc := cut_mono hm 2100 (L - C) (upTo 4001 (U + n + w') C - C) (by omega)
              dsimp only at h2
              rw [List.length_append, List.length_map] at h2 ⊢
              omega
            exact ⟨hl, .inr ⟨rfl, hl⟩⟩
    · dsimp only at h1 h2
      cases b with
      | true =>
        have hl : (Z ++ [(false, n)]).length ≤ 198 := by
          rw [List.length_append]; rw [List.length_cons] at h2; simpa using h2
        exact ⟨hl, .inr ⟨h1, hl⟩⟩
      | false =>
        obtain ⟨w', hw'⟩ : ∃ z, z = ackZ m w ℓ n := ⟨_, rfl⟩
        have e : mstep m ℓ L ⟨(false, n) :: Z, w, U, C⟩ = ⟨Z ++ (cutZ 2100 m (upTo L (U + n + w') C - C)).map (fun k => (true, k)), w', U + n, upTo L (U + n + w') C⟩ := by
          rw [hw']; rfl
        have hu : upTo L (U + n + w') C = L := by
          unfold upTo
          rw [h1]
          split <;> split <;> omega
        rw [e, hu, h1, cut_none 2100 (show L - L ≤ 0 by omega), List.map_nil, List.append_nil]
        have hl : Z.length ≤ 198 := by rw [List.length_cons] at h2; omega
        exact ⟨hl, .inr ⟨rfl, hl⟩⟩
theorem J3_start {m L : Int} (hm : 8 ≤ m ∧ m ≤ 1000) (hL : L ≤ 4001) (hL2 : 2050 ≤ L) : J3 m (2 * m) L (mstart m L (m + 1) 2050) ∧ (mstart m L (m + 1) 2050).Z.length ≤ 198 := by
 obtain ⟨h1, h2⟩ := m_all hm
 by_cases hlt : 2050 + (m + 1) < L
 ·have hu : upTo L (2050 + (m + 1)) 2050 = upTo 4001 (2050 + (m + 1)) 2050 := by
   unfold upTo
   rw [if_pos hlt, if_pos (show 2050 + (m + 1) < 4001 by omega)]
  have e : mstart m L (m + 1) 2050 = mstart m 4001 (m + 1) 2050 := by
   unfold mstart; rw [hu]
  rw [e]
  refine ⟨.inl ⟨?_, _, h2⟩, h1⟩
  show upTo 4001 (2050 + (m + 1)) 2050 < L
  unfold upTo
  rw [if_pos (show 2050 + (m + 1) < 4001 by omega)]
  split <;> omega
 ·have hu : upTo L (2050 + (m + 1)) 2050 = L := by
   unfold upTo
   rw [if_neg hlt]
   split <;> omega
  have hu2 : L ≤ upTo 4001 (2050 + (m + 1)) 2050 := by
   unfold upTo
   by_cases h5 : 2050 + (m + 1) < 4001
   ·rw [if_pos h5]; split <;> omega
   ·rw [if_neg h5]; split <;> omega
  have hl : (mstart m L (m + 1) 2050).Z.length ≤ 198 := by
   have hc := cut_mono (m := m) (by omega) 2100 (L - 2050) (upTo 4001 (2050 + (m + 1)) 2050 - 2050) (by omega)
   unfold mstart at h1 ⊢
   dsimp only at h1 ⊢
   rw [List.length_map] at h1 ⊢
   rw [hu]
   omega
  exact ⟨.inr ⟨hu, hl⟩, hl⟩
end Go.Proofs.Ytfpifahkpkjfgaa
