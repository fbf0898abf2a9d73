/- conn: the plain law of ConnSilent. -/
import Derived.Test.YtfpifahkpkjfgaaCnR
namespace Go.Proofs.Ytfpifahkpkjfgaa
open Go.RowKit Go.Lib
set_option linter.unusedVariables false
set_option linter.unusedSimpArgs false

/-- a connection that has said its SYN, or will -/
def cSil (iss mss now clock gone d meas wh cur sent : Int) : KCn :=
  ⟨1, 2, 3, 4, 1, 0, ⟨[], 1, 0, cur, sent, false⟩, iss, 0, mss, mss, 0, 0, 0, ⟨false, 0, 0, d⟩, now, clock, gone, 0, 0, false, false, false, false, meas, wh, [], none⟩
def sSyn (iss mss : Int) : KSeg := ⟨1, 2, 3, 4, u32 (iss + u32 0), 0, true, false, false, false, 2048, mss, ⟨#[]⟩⟩
section
variable {iss mss now clock gone d meas wh : Int}
theorem sil_ok {cur sent : Int} (hm : 8 ≤ mss ∧ mss ≤ 1000) (hg : 0 ≤ gone ∧ gone ≤ 8) (hd : 0 ≤ d ∧ d ≤ 6) (hn : 0 ≤ now ∧ now ≤ 1099511627776) (hk : -1 ≤ clock ∧ clock ≤ now) (hc : 0 ≤ cur ∧ cur ≤ sent ∧ sent ≤ 1) : COk (cSil iss mss now clock gone d meas wh cur sent) :=
  ⟨⟨by simp [cSil], by simp [cSil], by simp [cSil], hc.1, hc.2.1, by show sent ≤ qEnd ⟨[], 1, 0, cur, sent, false⟩; unfold qEnd oFin; simp; omega, .inl ⟨rfl, rfl⟩⟩, by simp [cSil], ⟨by simp [cSil], by simp [cSil], by simp [cSil], by simp [cSil], hd.1, hd.2⟩, hg.1, hg.2, hn.1, hn.2, hk.1, hk.2, by simp [cSil], by simp [cSil], hm.1, hm.2, fun _ => rfl, fun _ _ h => by cases h⟩
theorem sil_limit (cur sent : Int) : cLimit (cSil iss mss now clock gone d meas wh cur sent) = 1 := rfl
theorem sil_end (cur sent lim : Int) : oLim ⟨[], 1, 0, cur, sent, false⟩ 1 = 1 := rfl
theorem sil_is0 (sent : Int) (hm : 8 ≤ mss) : cIsP (cSil iss mss now clock gone d meas wh 0 sent) 1 = true := by
  have h1 : decide (1 ≤ mss) = true := decide_eq_true (by omega)
  show (decide ((0 : Int) < 1) && decide (1 ≤ mss)) = true
  rw [h1]; rfl
theorem sil_is1 (sent : Int) : cIsP (cSil iss mss now clock gone d meas wh 1 sent) 1 = false := rfl
theorem sil_pc (sent : Int) (hm : 8 ≤ mss) : cPc (cSil iss mss now clock gone d meas wh 0 sent) 1 = ⟨0, true, false, ⟨#[]⟩⟩ := by
  have h := sil_is0 (iss := iss) (now := now) (clock := clock) (gone := gone) (d := d) (meas := meas) (wh := wh) sent hm
  unfold cIsP at h
  unfold cPc qPiece
  rw [if_pos h]
  rfl
theorem sil_step (sent : Int) (hm : 8 ≤ mss) (hs : sent = 0 ∨ sent = 1) : ∃ m' w', cStep (cSil iss mss now clock gone d meas wh 0 sent) 1 = cSil iss mss now clock gone d m' w' 1 1 := by
  have hp := sil_pc (iss := iss) (now := now) (clock := clock) (gone := gone) (d := d) (meas := meas) (wh := wh) sent hm
  have hn : oNext (cSil iss mss now clock gone d meas wh 0 sent).o 1 (cSil iss mss now clock gone d meas wh 0 sent).mss = ⟨[], 1, 0, 1, 1, false⟩ := by
    unfold cPc at hp
    unfold oNext
    rw [hp]
    rcases hs with rfl | rfl <;> rfl
  unfold cStep
  rw [hn]
  split
  · exact ⟨_, _, rfl⟩
  · exact ⟨_, _, rfl⟩
theorem sil_first (sent : Int) (hm : 8 ≤ mss) (hs : sent = 0 ∨ sent = 1) (hn : 0 ≤ now) :
    ∃ m' w', cOut (cSil iss mss now (-1) gone d meas wh 0 sent) = (cSil iss mss now now gone d m' w' 1 1, [sSyn iss mss]) := by
  obtain ⟨m', w', hc⟩ := sil_step (iss := iss) (now := now) (clock := -1) (gone := gone) (d := d) (meas := meas) (wh := wh) sent hm hs
  refine ⟨m', w', ?_⟩
  have e1 : cOut (cSil iss mss now (-1) gone d meas wh 0 sent) = cTail (cLoop 2100 (cSil iss mss now (-1) gone d meas wh 0 sent) 1 []) 0 := rfl
  rw [e1, cLoop_go 2099 (sil_is0 sent hm), hc, cLoop_stop 2099 (sil_is1 1), sil_pc sent hm]
  unfold cTail
  have e2 : cSettle (cSil iss mss now (-1) gone d m' w' 1 1) = cSil iss mss now now gone d m' w' 1 1 := by
    unfold cSettle
    rw [if_neg (by
      rintro (h | h | h)
      · exact absurd (show (1 : Int) = 0 from h) (by decide)
      · exact absurd (show (1 : Int) = 9 from h) (by decide)
      · exact h (.inl (show (0 : Int) < 1 by decide)))]
    exact if_pos (show (-1 : Int) < 0 by decide)
  refine Prod.ext ?_ rfl
  exact e2
theorem sil_quiet (hn : 0 ≤ clock) :
    cOut (cSil iss mss now clock gone d meas wh 1 1) = (cSil iss mss now clock gone d meas wh 1 1, []) := by
  have e1 : cOut (cSil iss mss now clock gone d meas wh 1 1) = cTail (cLoop 2100 (cSil iss mss now clock gone d meas wh 1 1) 1 []) 0 := rfl
  rw [e1, cLoop_stop 2100 (sil_is1 1)]
  unfold cTail
  have e2 : cSettle (cSil iss mss now clock gone d meas wh 1 1) = cSil iss mss now clock gone d meas wh 1 1 := by
    unfold cSettle
    rw [if_neg (by
      rintro (h | h | h)
      · exact absurd (show (1 : Int) = 0 from h) (by decide)
      · exact absurd (show (1 : Int) = 9 from h) (by decide)
      · exact h (.inl (show (0 : Int) < 1 by decide)))]
    exact if_neg (show ¬ clock < 0 by omega)
  refine Prod.ext ?_ rfl
  exact e2
theorem sil_wait (hn : 0 ≤ clock) (hv : ¬ valZ false 0 0 d ≤ now + 1 - clock) :
    cTick (cSil iss mss now clock gone d meas wh 1 1) 1 = cSil iss mss (now + 1) clock gone d meas wh 1 1 := by
  have e1 : cTick (cSil iss mss now clock gone d meas wh 1 1) 1 = cSettle (if (1 : Int) = 9 ∧ (0 : Int) ≤ now + 1 then cClosed (cSil iss mss (now + 1) clock gone d meas wh 1 1) 0 else if 0 ≤ clock ∧ valZ false 0 0 d ≤ now + 1 - clock then cLate (cSil iss mss (now + 1) clock gone d meas wh 1 1) else cSil iss mss (now + 1) clock gone d meas wh 1 1) := rfl
  rw [e1, if_neg (fun h => absurd h.1 (by decide)), if_neg (fun h => hv h.2)]
  unfold cSettle
  rw [if_neg (by
    rintro (h | h | h)
    · exact absurd (show (1 : Int) = 0 from h) (by decide)
    · exact absurd (show (1 : Int) = 9 from h) (by decide)
    · exact h (.inl (show (0 : Int) < 1 by decide)))]
  exact if_neg (show ¬ clock < 0 by omega)
theorem sil_late (hn : 0 ≤ clock) (hv : valZ false 0 0 d ≤ now + 1 - clock) (hg : gone ≠ 8) :
    cTick (cSil iss mss now clock gone d meas wh 1 1) 1 = cSil iss mss (now + 1) (-1) (gone + 1) (if d < 6 then d + 1 else 6) 0 wh 0 1 := by
  have e1 : cTick (cSil iss mss now clock gone d meas wh 1 1) 1 = cSettle (if (1 : Int) = 9 ∧ (0 : Int) ≤ now + 1 then cClosed (cSil iss mss (now + 1) clock gone d meas wh 1 1) 0 else if 0 ≤ clock ∧ valZ false 0 0 d ≤ now + 1 - clock then cLate (cSil iss mss (now + 1) clock gone d meas wh 1 1) else cSil iss mss (now + 1) clock gone d meas wh 1 1) := rfl
  rw [e1, if_neg (fun h => absurd h.1 (by decide)), if_pos ⟨hn, hv⟩]
  have e2 : cLate (cSil iss mss (now + 1) clock gone d meas wh 1 1) = cSil iss mss (now + 1) (now + 1) (gone + 1) (if d < 6 then d + 1 else 6) 0 wh 0 1 := by
    unfold cLate
    exact (if_neg (show ¬ gone = 8 from hg)).trans (if_neg (show ¬ ((1 : Int) - 0 = 0) by decide))
  rw [e2]
  unfold cSettle
  rw [if_pos (by
    refine .inr (.inr ?_)
    rintro (h | h)
    · exact absurd (show (0 : Int) < 0 from h) (by decide)
    · exact absurd (show (0 : Int) < 0 from h.2.1) (by decide))]
  rfl
theorem sil_shut (hn : 0 ≤ clock) (hv : valZ false 0 0 d ≤ now + 1 - clock) (hg : gone = 8) :
    cTick (cSil iss mss now clock gone d meas wh 1 1) 1 = { cSil iss mss (now + 1) (-1) 8 d meas wh 1 1 with st := 0, why := 13 } := by
  subst hg
  have e1 : cTick (cSil iss mss now clock 8 d meas wh 1 1) 1 = cSettle (if (1 : Int) = 9 ∧ (0 : Int) ≤ now + 1 then cClosed (cSil iss mss (now + 1) clock 8 d meas wh 1 1) 0 else if 0 ≤ clock ∧ valZ false 0 0 d ≤ now + 1 - clock then cLate (cSil iss mss (now + 1) clock 8 d meas wh 1 1) else cSil iss mss (now + 1) clock 8 d meas wh 1 1) := rfl
  rw [e1, if_neg (fun h => absurd h.1 (by decide)), if_pos ⟨hn, hv⟩]
  rfl
end
/-- when the j-th SYN goes out -/
def sAt (j : Int) : Int := if j ≤ 5 then 3 * 2 ^ j.toNat - 3 else 93 + 64 * (j - 5)
def sD (j : Int) : Int := if j < 6 then j else 6
theorem nine (j : Int) (h : 0 ≤ j ∧ j ≤ 8) : j = 0 ∨ j = 1 ∨ j = 2 ∨ j = 3 ∨ j = 4 ∨ j = 5 ∨ j = 6 ∨ j = 7 ∨ j = 8 := by omega
theorem sAt_val (j : Int) (h : 0 ≤ j ∧ j ≤ 8) : valZ false 0 0 (sD j) = sAt (j + 1) - sAt j ∧ 0 ≤ sAt j ∧ 2 ≤ sAt (j + 1) - sAt j ∧ sAt (j + 1) ≤ 349 ∧ (if sD j < 6 then sD j + 1 else 6) = sD (j + 1) ∧ 0 ≤ sD j ∧ sD j ≤ 6 := by
  rcases nine j h with rfl | rfl | rfl | rfl | rfl | rfl | rfl | rfl | rfl <;> decide
theorem sAt_8 : sAt (8 + 1) = 349 := by decide
/-- at the beginning of round t -/
def SIn (iss mss t : Int) (c : KCn) (many : Int) : Prop :=
  (∃ j meas wh sent, 0 ≤ j ∧ j ≤ 8 ∧ t = sAt j ∧ (sent = 0 ∨ sent = 1) ∧ many = j ∧ c = cSil iss mss t (-1) j (sD j) meas wh 0 sent) ∨
  (∃ j meas wh, 0 ≤ j ∧ j ≤ 8 ∧ sAt j < t ∧ t < sAt (j + 1) ∧ many = j + 1 ∧ c = cSil iss mss t (sAt j) j (sD j) meas wh 1 1) ∨
  (∃ meas wh, t = 349 ∧ many = 9 ∧ c = { cSil iss mss t (-1) 8 6 meas wh 1 1 with st := 0, why := 13 })
theorem sin_0 (iss mss : Int) : SIn iss mss 0 { cNew 1 2 3 4 iss mss with st := 1 } 0 :=
  .inl ⟨0, 0, 0, 0, by decide, by decide, by decide, .inl rfl, rfl, rfl⟩
/-- behind Out -/
theorem sin_out {iss mss t : Int} {c : KCn} {many : Int} (hm : 8 ≤ mss) (h : SIn iss mss t c many) :
    ((∃ j meas wh, 0 ≤ j ∧ j ≤ 8 ∧ sAt j ≤ t ∧ t < sAt (j + 1) ∧ many + (cOut c).2.length = j + 1 ∧ (cOut c).1 = cSil iss mss t (sAt j) j (sD j) meas wh 1 1 ∧ ((cOut c).2 = [] ∨ (cOut c).2 = [sSyn iss mss])) ∨
     (t = 349 ∧ many = 9 ∧ (cOut c).1.st = 0 ∧ (cOut c).1.why = 13 ∧ (cOut c).2 = [])) := by
  rcases h with ⟨j, meas, wh, sent, h1, h2, h3, h4, h5, rfl⟩ | ⟨j, meas, wh, h1, h2, h3, h4, h5, rfl⟩ | ⟨meas, wh, h1, h2, rfl⟩
  · obtain ⟨v1, v2, v3, v4, v5, v6, v7⟩ := sAt_val j ⟨h1, h2⟩
    obtain ⟨m', w', e⟩ := sil_first (iss := iss) (mss := mss) (now := t) (gone := j) (d := sD j) (meas := meas) (wh := wh) sent hm h4 (by omega)
    refine .inl ⟨j, m', w', h1, h2, by omega, by omega, ?_, ?_, ?_⟩
    · rw [e]; simp only [List.length_singleton]; omega
    · rw [e, ← h3]
    · rw [e]; exact .inr rfl
  · obtain ⟨v1, v2, v3, v4, v5, v6, v7⟩ := sAt_val j ⟨h1, h2⟩
    have e := sil_quiet (iss := iss) (mss := mss) (now := t) (clock := sAt j) (gone := j) (d := sD j) (meas := meas) (wh := wh) v2
    refine .inl ⟨j, meas, wh, h1, h2, by omega, h4, ?_, ?_, ?_⟩
    · rw [e]; simp only [List.length_nil]; omega
    · rw [e]
    · rw [e]; exact .inl rfl
  · exact .inr ⟨h1, h2, rfl, rfl, rfl⟩
/-- behind the tick -/
theorem sin_tick {iss mss t : Int} {j meas wh : Int} (h1 : 0 ≤ j) (h2 : j ≤ 8) (h3 : sAt j ≤ t) (h4 : t < sAt (j + 1)) :
    SIn iss mss (t + 1) (cTick (cSil iss mss t (sAt j) j (sD j) meas wh 1 1) 1) (j + 1) := by
  obtain ⟨v1, v2, v3, v4, v5, v6, v7⟩ := sAt_val j ⟨h1, h2⟩
  by_cases hv : valZ false 0 0 (sD j) ≤ t + 1 - sAt j
  · by_cases hj : j = 8
    · subst hj
      rw [sil_shut v2 hv rfl]
      exact .inr (.inr ⟨meas, wh, by have := sAt_8; omega, by decide, rfl⟩)
    · rw [sil_late v2 hv hj, v5]
      exact .inl ⟨j + 1, 0, wh, 1, by omega, by omega, by omega, .inr rfl, rfl, rfl⟩
  · rw [sil_wait v2 hv]
    exact .inr (.inl ⟨j, meas, wh, h1, h2, by omega, by omega, rfl, rfl⟩)
theorem sin_ok {iss mss t : Int} {c : KCn} {many : Int} (hm : 8 ≤ mss ∧ mss ≤ 1000) (h : SIn iss mss t c many) : COk c ∧ c.again = false ∧ c.rs = [] ∧ c.h = none ∧ 0 ≤ t ∧ t ≤ 349 ∧ 0 ≤ many ∧ many ≤ 9 := by
  rcases h with ⟨j, meas, wh, sent, h1, h2, h3, h4, h5, rfl⟩ | ⟨j, meas, wh, h1, h2, h3, h4, h5, rfl⟩ | ⟨meas, wh, h1, h2, rfl⟩
  · obtain ⟨v1, v2, v3, v4, v5, v6, v7⟩ := sAt_val j ⟨h1, h2⟩
    exact ⟨sil_ok hm ⟨h1, h2⟩ ⟨v6, v7⟩ ⟨by omega, by omega⟩ ⟨by omega, by omega⟩ (by omega), rfl, rfl, rfl, by omega, by omega, by omega, by omega⟩
  · obtain ⟨v1, v2, v3, v4, v5, v6, v7⟩ := sAt_val j ⟨h1, h2⟩
    exact ⟨sil_ok hm ⟨h1, h2⟩ ⟨v6, v7⟩ ⟨by omega, by omega⟩ ⟨by omega, by omega⟩ (by omega), rfl, rfl, rfl, by omega, by omega, by omega, by omega⟩
  · have := sil_ok (iss := iss) (now := t) (clock := -1) (gone := 8) (d := 6) (meas := meas) (wh := wh) (cur := 1) (sent := 1) hm (by decide) (by decide) ⟨by omega, by omega⟩ ⟨by omega, by omega⟩ (by decide)
    exact ⟨⟨this.ok, this.hb, this.ht, this.g1, this.g2, this.n1, this.n2, this.k1, this.k2, this.w1, this.w2, this.m1, this.m2, this.hn, this.hs⟩, rfl, rfl, rfl, by omega, by omega, by omega, by omega⟩
end Go.Proofs.Ytfpifahkpkjfgaa
