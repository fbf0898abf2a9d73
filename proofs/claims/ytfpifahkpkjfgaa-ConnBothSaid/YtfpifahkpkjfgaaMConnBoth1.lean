/- What ConnBoth needs, a part: CnBo. -/
import Derived.Test.YtfpifahkpkjfgaaMCnPc32
/- conn: two that dial one another at the same time meet (plain). -/
namespace Go.Proofs.Ytfpifahkpkjfgaa
open Go.RowKit Go.Lib
set_option linter.unusedVariables false
set_option linter.unusedSimpArgs false

section
variable {la lp ra rp iss irs own m : Int}
/-- one that has dialled, and to which the other one's SYN has come -/
def cS1 (la lp ra rp iss irs own m : Int) : KCn := ⟨la, lp, ra, rp, 2, 0, ⟨[], 1, 0, 0, 1, false⟩, iss, irs, own, m, 2048, 0, 0, ⟨false, 0, 0, 0⟩, 0, -1, 0, 0, 0, false, false, false, false, 1, 0, [], some (newIQ, ⟨m, 2 * m, 65535⟩)⟩
theorem in_syn {mo : Int} (hl : okP lp) (hr : okP rp) (hm : 8 ≤ mo ∧ mo ≤ 1000) :
    cIn (cA1 la lp ra rp iss own) (gSyn ra rp la lp irs mo) = cS1 la lp ra rp iss irs own (cMss own mo) := by
  have he : cInE (cA1 la lp ra rp iss own) (gSyn ra rp la lp irs mo) = 0 := by
    unfold cInE
    rw [if_neg (by rw [chk_syn hr hl hm]; exact fun h => h rfl), if_neg (fun h => h ⟨rfl, rfl, rfl, rfl⟩), if_neg (show ¬ (cA1 la lp ra rp iss own).st = 0 from (show ¬ (1 : Int) = 0 by decide))]
  unfold cIn
  rw [if_neg (by rw [he]; exact fun h => h rfl), if_pos (show (cA1 la lp ra rp iss own).st = 1 from rfl)]
  unfold cFirst
  rw [if_neg (fun h => by cases h.1), if_neg (show ¬ (gSyn ra rp la lp irs mo).rst = true from fun h => by cases h), if_pos (show (gSyn ra rp la lp irs mo).syn = true from rfl), if_neg (show ¬ (gSyn ra rp la lp irs mo).has = true from fun h => by cases h)]
  exact settle_off (c := { cS1 la lp ra rp iss irs own (cMss own mo) with clock := 0 }) (.inr (.inr (nowait (show (0 : Int) ≤ 0 by decide) (show (2048 : Int) ≠ 0 by decide))))
theorem out_s1 (hi : 0 ≤ iss ∧ iss ≤ 4294967295) (hm : 8 ≤ m) :
    cOut (cS1 la lp ra rp iss irs own m) = (cB1 la lp ra rp iss irs own m, [gSA la lp ra rp iss irs own]) := by
  have hd : decide ((1 : Int) ≤ m) = true := decide_eq_true (by omega)
  obtain ⟨c, hc⟩ : ∃ z : KCn, z = cS1 la lp ra rp iss irs own m := ⟨_, rfl⟩
  have co : c.o = ⟨[], 1, 0, 0, 1, false⟩ := by rw [hc]; rfl
  have cm : c.mss = m := by rw [hc]; rfl
  have h1 : cIsP c 1 = true := by
    unfold cIsP
    rw [co, cm]
    show (decide ((0 : Int) < 1) && decide (1 ≤ m)) = true
    rw [hd]; rfl
  have hq : qPiece ⟨[], 1, 0, 0, 1, false⟩ 0 1 m = ⟨0, true, false, ⟨#[]⟩⟩ := by
    unfold cIsP at h1
    rw [co, cm] at h1
    unfold qPiece
    rw [if_pos h1]; rfl
  have hp : cPc c 1 = ⟨0, true, false, ⟨#[]⟩⟩ := by
    unfold cPc
    rw [co, cm]; exact hq
  have hn : oNext ⟨[], 1, 0, 0, 1, false⟩ 1 m = ⟨[], 1, 0, 1, 1, false⟩ := by
    unfold oNext
    rw [show qPiece (⟨[], 1, 0, 0, 1, false⟩ : OQ) (⟨[], 1, 0, 0, 1, false⟩ : OQ).cur 1 m = ⟨0, true, false, ⟨#[]⟩⟩ from hq]; rfl
  have hs : cStep c 1 = { cB1 la lp ra rp iss irs own m with clock := -1 } := by
    unfold cStep
    rw [hp, co, cm, hn, hc]
    rfl
  have hl : cLimit c = 1 := by unfold cLimit; rw [co]; rfl
  rw [← hc, out_one (by rw [hc]; exact (show (2 : Int) ≠ 0 by decide)) (by rw [hc]; rfl) (by rw [hc]; rfl) (by rw [hl]; exact h1) (by rw [hl, hs]; show (decide ((1 : Int) < 1) && decide (1 ≤ m)) = false; rfl)]
  rw [hl, hs, hp]
  refine Prod.ext ?_ ?_
  · exact settle_on (c := { cB1 la lp ra rp iss irs own m with clock := -1, owed := false, again := false, probe := false }) (show (2 : Int) ≠ 0 by decide) (show (2 : Int) ≠ 9 by decide) (.inl (show (0 : Int) < 1 by decide)) (show (-1 : Int) < 0 by decide)
  · have e : u32 (iss + u32 0) = iss := by unfold u32; omega
    have e2 : u32 (irs + u32 1) = u32 (irs + 1) := u32_add _ _
    rw [hc]
    show [({ (⟨la, lp, ra, rp, u32 (iss + u32 0), u32 (irs + u32 1), false, true, false, false, 2048 - (1 - 1), 0, ⟨#[]⟩⟩ : KSeg) with syn := true, fin := false, b := ⟨#[]⟩, mss := own } : KSeg)] = _
    rw [e, e2]; rfl
theorem settle_same {c : KCn} (h0 : c.st ≠ 0) (h9 : c.st ≠ 9) (hw : cWaits c) (hc : 0 ≤ c.clock) : cSettle c = c := by
  unfold cSettle
  rw [if_neg (by
    rintro (h | h | h)
    · exact h0 h
    · exact h9 h
    · exact h hw), if_neg (by omega)]
theorem in_sa2 {mo : Int} (hl : okP lp) (hr : okP rp) (hi : 0 ≤ irs ∧ irs ≤ 4294967295) (hm : 8 ≤ mo ∧ mo ≤ 1000) :
    cIn (cB1 la lp ra rp iss irs own m) (gSA ra rp la lp irs iss mo) = { cB1 la lp ra rp iss irs own m with owed := true } := by
  obtain ⟨g, hg⟩ : ∃ z, z = gSA ra rp la lp irs iss mo := ⟨_, rfl⟩
  obtain ⟨c, hc⟩ : ∃ z, z = cB1 la lp ra rp iss irs own m := ⟨_, rfl⟩
  have he : cInE c g = 0 := by
    rw [hc, hg]
    unfold cInE
    rw [if_neg (by rw [chk_sa hr hl hm]; exact fun h => h rfl), if_neg (fun h => h ⟨rfl, rfl, rfl, rfl⟩), if_neg (show ¬ (cB1 la lp ra rp iss irs own m).st = 0 from (show ¬ (2 : Int) = 0 by decide))]
  have hs : g.seq = u32 (c.irs + 0) := by rw [hc, hg]; exact (show irs = u32 (irs + 0) by rw [Int.add_zero, u32_id hi.1 hi.2])
  have hac : accB g.seq (sgLen g) (cWant c) (cRoomI c) = false := by
    rw [hs, want_is, show (cQ c).nx = 1 by rw [hc]; rfl, show sgLen g = 1 by rw [hg]; rfl, show cRoomI c = 2048 by rw [hc]; rfl, acc_is (by decide) (by decide) (by decide) (by decide)]
    exact decide_eq_false (by decide)
  rw [← hc, ← hg]
  unfold cIn
  rw [if_neg (by rw [he]; exact fun h => h rfl), if_neg (show ¬ c.st = 1 by rw [hc]; exact (show ¬ (2 : Int) = 1 by decide))]
  have hn : cNext c g = { c with owed := true } := by
    unfold cNext
    rw [if_pos hac, if_neg (by rw [hg]; exact fun h => by cases h.2), hc, hg]
    rfl
  rw [hn, hc]
  exact settle_same (c := { cB1 la lp ra rp iss irs own m with owed := true }) (show (2 : Int) ≠ 0 by decide) (show (2 : Int) ≠ 9 by decide) (.inl (show (0 : Int) < 1 by decide)) (show (0 : Int) ≤ 0 by decide)
theorem out_b1 : cOut { cB1 la lp ra rp iss irs own m with owed := true } = (cB1 la lp ra rp iss irs own m, [gAk la lp ra rp iss irs]) := by
  have hi : cIsP { cB1 la lp ra rp iss irs own m with owed := true } (cLimit { cB1 la lp ra rp iss irs own m with owed := true }) = false := rfl
  rw [out_none (show (2 : Int) ≠ 0 by decide) rfl rfl hi]
  refine Prod.ext ?_ ?_
  · exact settle_same (c := cB1 la lp ra rp iss irs own m) (show (2 : Int) ≠ 0 by decide) (show (2 : Int) ≠ 9 by decide) (.inl (show (0 : Int) < 1 by decide)) (show (0 : Int) ≤ 0 by decide)
  · show [(⟨la, lp, ra, rp, u32 (iss + u32 1), u32 (irs + u32 1), false, true, false, false, 2048 - (1 - 1), 0, ⟨#[]⟩⟩ : KSeg)] = _
    rw [u32_add, u32_add]
    rfl
end
/-- one of the two, and what it has sent, at the beginning of round t -/
def bo (la lp ra rp iss irs own mo : Int) : Nat → KCn × List KSeg
  | 0 => (cA1 la lp ra rp iss own, [gSyn la lp ra rp iss own])
  | 1 => (cB1 la lp ra rp iss irs own (cMss own mo), [gSA la lp ra rp iss irs own])
  | 2 => (cB1 la lp ra rp iss irs own (cMss own mo), [gAk la lp ra rp iss irs])
  | _ + 3 => (cE la lp ra rp iss irs own (cMss own mo) 1 1 0 false, [])
section
variable {la lp ra rp iss irs own mo : Int}
theorem bo_step (t : Nat) (hl : okP lp) (hr : okP rp) (hi : 0 ≤ iss ∧ iss ≤ 4294967295) (hj : 0 ≤ irs ∧ irs ≤ 4294967295) (ho : 8 ≤ own ∧ own ≤ 1000) (hm : 8 ≤ mo ∧ mo ≤ 1000) :
    cOut ((bo ra rp la lp irs iss mo own t).2.foldl cIn (bo la lp ra rp iss irs own mo t).1) = bo la lp ra rp iss irs own mo (t + 1) := by
  have hmm := cMss_in (m := mo) ho
  match t with
  | 0 =>
    show cOut (cIn (cA1 la lp ra rp iss own) (gSyn ra rp la lp irs mo)) = _
    rw [in_syn hl hr hm, out_s1 hi hmm.1]; rfl
  | 1 =>
    show cOut (cIn (cB1 la lp ra rp iss irs own (cMss own mo)) (gSA ra rp la lp irs iss mo)) = _
    rw [in_sa2 hl hr hj hm, out_b1]; rfl
  | 2 =>
    show cOut (cIn (cB1 la lp ra rp iss irs own (cMss own mo)) (gAk ra rp la lp irs iss)) = _
    rw [in_ak hl hr hmm, out_e hmm]; rfl
  | n + 3 =>
    show cOut (cE la lp ra rp iss irs own (cMss own mo) 1 1 0 false) = _
    rw [out_e hmm]; rfl
theorem bo_len (t : Nat) : (bo la lp ra rp iss irs own mo t).2.length ≤ 1 := by
  match t with
  | 0 => exact Nat.le_refl 1
  | 1 => exact Nat.le_refl 1
  | 2 => exact Nat.le_refl 1
  | n + 3 => exact Nat.zero_le 1
theorem bo_seg (t : Nat) (hl : okP lp) (hr : okP rp) (hi : 0 ≤ iss ∧ iss ≤ 4294967295) (hj : 0 ≤ irs ∧ irs ≤ 4294967295) (ho : 8 ≤ own ∧ own ≤ 1000) (hm : 8 ≤ mo ∧ mo ≤ 1000) (h1 : 0 ≤ la ∧ la ≤ 4294967295) (h2 : 0 ≤ ra ∧ ra ≤ 4294967295) : ∀ g ∈ (bo la lp ra rp iss irs own mo t).2, SegOk g := by
  have hs := (ci_sa (la := ra) (lp := rp) (ra := la) (rp := lp) hj hi hm ho hr hl h2 h1).1
  have hk := (ci_sa (la := la) (lp := lp) (ra := ra) (rp := rp) hi hj ho hm hl hr h1 h2).2.2.2
  match t with
  | 0 => intro g hg; rw [List.mem_singleton.1 hg]; exact syn_ok h1 hl h2 hr hi ho
  | 1 => intro g hg; rw [List.mem_singleton.1 hg]; exact hs
  | 2 => intro g hg; rw [List.mem_singleton.1 hg]; exact hk
  | n + 3 => intro g hg; cases hg
theorem bo_ci (t : Nat) (hl : okP lp) (hr : okP rp) (hi : 0 ≤ iss ∧ iss ≤ 4294967295) (hj : 0 ≤ irs ∧ irs ≤ 4294967295) (ho : 8 ≤ own ∧ own ≤ 1000) (hm : 8 ≤ mo ∧ mo ≤ 1000) (h1 : 0 ≤ la ∧ la ≤ 4294967295) (h2 : 0 ≤ ra ∧ ra ≤ 4294967295) : CI (bo la lp ra rp iss irs own mo t).1 1 := by
  have hb := ci_b (la := la) (lp := lp) (ra := ra) (rp := rp) hi hj ho hm hl hr h1 h2
  match t with
  | 0 => exact (ci_a1 hi ho).mono (by decide)
  | 1 => exact hb.1.mono (by decide)
  | 2 => exact hb.1.mono (by decide)
  | n + 3 => exact hb.2
end
end Go.Proofs.Ytfpifahkpkjfgaa
