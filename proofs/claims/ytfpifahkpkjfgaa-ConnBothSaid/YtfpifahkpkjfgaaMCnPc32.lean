/- What CnPc needs, a part: CnPc. -/
import Derived.Test.YtfpifahkpkjfgaaMCnPc29
import Derived.Test.YtfpifahkpkjfgaaMCnPc31
/- conn: calls of a connection that lies among other things; what always holds of two that meet. -/
namespace Go.Proofs.Ytfpifahkpkjfgaa
open Go.RowKit Go.Lib
set_option linter.unusedVariables false
set_option linter.unusedSimpArgs false
set_option linter.unusedSectionVars false

section
variable {E : Nat → Prop} {w W : World} {gc gi gw : Nat} {c : KCn} {k : KPt}
theorem cn_at {F m : List Res} (h : MemX E w W (F ++ (cnH gc gi gw c k ++ m))) : MemX E w W (cnL gc gi gw c k (F ++ m)) := by
  rw [cnL_eq]
  exact h.perm (List.perm_append_comm_assoc F (cnH gc gi gw c k) m)
theorem cn_un {F m : List Res} (h : MemX E w W (cnL gc gi gw c k (F ++ m))) : MemX E w W (F ++ (cnH gc gi gw c k ++ m)) := by
  rw [cnL_eq] at h
  exact h.perm (List.perm_append_comm_assoc (cnH gc gi gw c k) F m)
theorem outF (F m : List Res) {t : Int} (h : MemX E w W (F ++ (cnH gc gi gw c k ++ m))) (hk : KOk k gi gw c.h) (hc : CI c t) (ht : t ≤ 1000000000000) :
    Calls Try.prog 15 #[.pointer (some ⟨gc, 0, none⟩)] W fun e W' => ∃ v k', e = .returned v ∧ MemX E w W' (rowR 13 cSeg v (cOut c).2 :: (F ++ (cnH gc gi gw (cOut c).1 k' ++ m))) ∧ KOk k' gi gw (cOut c).1.h := by
  refine (out_all gc gi gw c k (F ++ m) W (cn_at h) hk (hc.cok (by omega)) (by have := hc.rsl; omega) hc.rsu).mono ?_
  rintro e W' ⟨v, k', rfl, h2, hk'⟩
  have h3 : MemX E w W' (cnL gc gi gw (cOut c).1 k' ((rowR 13 cSeg v (cOut c).2 :: F) ++ m)) := by
    rw [cnL_eq] at h2 ⊢
    exact h2.perm (List.perm_middle (l₁ := cnH gc gi gw (cOut c).1 k')).symm
  exact ⟨v, k', rfl, cn_un h3, hk'⟩
theorem inF (F m : List Res) {t : Int} (h : MemX E w W (F ++ (cnH gc gi gw c k ++ m))) (hk : KOk k gi gw c.h) (hc : CI c t) (ht : t ≤ 1000000000000) (g : KSeg) (hg : SegOk g) :
    Calls Try.prog 19 #[.pointer (some ⟨gc, 0, none⟩), .agg (cSeg g).toArray] W fun e W' => ∃ gi' gw' k', e = .returned (.int .i64 (cInE c g)) ∧ MemX E w W' (F ++ (cnH gc gi' gw' (cIn c g) k' ++ m)) ∧ KOk k' gi' gw' (cIn c g).h := by
  refine (cIn_any gc gi gw c k (F ++ m) W (cn_at h) hk (hc.cin ht) g hg).mono ?_
  rintro e W' ⟨gi', gw', k', rfl, h2, hk'⟩
  exact ⟨gi', gw', k', rfl, cn_un h2, hk'⟩
theorem stateF (F m : List Res) (h : MemX E w W (F ++ (cnH gc gi gw c k ++ m))) :
    Calls Try.prog 16 #[.pointer (some ⟨gc, 0, none⟩)] W fun e W' => e = .returned (.int .i64 c.st) ∧ W = W' :=
  State_any gc c k W ((cn_at h).at_ 2 rfl)
theorem tickF (F m : List Res) {t : Int} (h : MemX E w W (F ++ (cnH gc gi gw c k ++ m))) (hk : KOk k gi gw c.h) (hc : CI c t) (ht : t ≤ 1000000000000) (n : Int) (hn : 0 ≤ n) (hn2 : n ≤ 1099511627776 - c.now) :
    Calls Try.prog 18 #[.pointer (some ⟨gc, 0, none⟩), .int .i64 n] W fun e W' => e = .returned (.int .i64 0) ∧ MemX E w W' (F ++ (cnH gc gi gw (cTick c n) k ++ m)) ∧ KOk k gi gw (cTick c n).h := by
  refine (tick_all gc gi gw c k (F ++ m) W n (cn_at h) hk (hc.cok (by omega)) hn hn2).mono ?_
  rintro e W' ⟨rfl, h2, hk'⟩
  exact ⟨rfl, cn_un h2, hk'⟩
theorem readyF (F m : List Res) (q : IQ) (d : KWd) (h : MemX E w W (F ++ (cnH gc gi gw c k ++ m))) (hk : KOk k gi gw c.h) (hh : c.h = some (q, d)) (hq : IqOk q) (hs : c.st = 3) (hr : endZ q - q.rd = 0) (ho : q.over = false) (hroom : 0 < oRoom c.o) (hlen : c.o.l.length ≤ 2048) :
    Calls Try.prog 27 #[.pointer (some ⟨gc, 0, none⟩)] W fun e W' => e = .returned (.int .i64 2) ∧ MemX E w W' (F ++ (cnH gc gi gw c k ++ m)) := by
  refine (Ready_est gc gi gw q d c k (F ++ m) W (cn_at h) hh hk hq hs hr ho hroom hlen).mono ?_
  rintro e W' ⟨rfl, h2⟩
  exact ⟨rfl, cn_un h2⟩
end
section
variable {la lp ra rp iss irs own m : Int}
theorem ci_a1 (hi : 0 ≤ iss ∧ iss ≤ 4294967295) (hm : 8 ≤ own ∧ own ≤ 1000) : CI (cA1 la lp ra rp iss own) 0 := by
  have h := (CI.begin la lp ra rp iss own hi hm).out.1
  rw [out_dial hi hm.1] at h
  exact h
theorem ci_take (hi : 0 ≤ iss ∧ iss ≤ 4294967295) (hm : 8 ≤ own ∧ own ≤ 1000) (g : KSeg) (hw : 0 ≤ g.win ∧ g.win ≤ 65535) (hgs : 0 ≤ g.seq ∧ g.seq ≤ 4294967295) : CI (cTake la lp g iss own) 0 := by
  have h := ((CI.begin la lp g.fa g.fp iss own hi hm).cj.syn g rfl hw hgs).1.i
  exact h
theorem ci_sa (hi : 0 ≤ iss ∧ iss ≤ 4294967295) (hj : 0 ≤ irs ∧ irs ≤ 4294967295) (hm : 8 ≤ own ∧ own ≤ 1000) {mo : Int} (ho : 8 ≤ mo ∧ mo ≤ 1000) (hl : okP lp) (hr : okP rp) (h1 : 0 ≤ la ∧ la ≤ 4294967295) (h2 : 0 ≤ ra ∧ ra ≤ 4294967295) :
    SegOk (gSA ra rp la lp irs iss mo) ∧ CI (cE la lp ra rp iss irs own (cMss own mo) 0 0 0 true) 1 ∧ CI (cE la lp ra rp iss irs own (cMss own mo) 0 0 0 false) 1 ∧ SegOk (gAk la lp ra rp iss irs) := by
  have hl2 := hl
  have hr2 := hr
  unfold okP at hl2 hr2
  have hs : SegOk (gSA ra rp la lp irs iss mo) := by
    have := u32_bd (iss + 1)
    refine ⟨h2, ⟨?_, ?_⟩, h1, ⟨?_, ?_⟩, hj, this, ?_, ⟨?_, ?_⟩, ?_⟩ <;> simp only [gSA] <;> first | omega | decide
  have h := ((ci_a1 (la := la) (lp := lp) (ra := ra) (rp := rp) hi hm).in_ (by decide) (gSA ra rp la lp irs iss mo) hs).1
  rw [in_sa hl hr hm ho] at h
  have h3 := h.out.1
  rw [out_e (cMss_in hm)] at h3
  refine ⟨hs, h, h3, ?_⟩
  have e1 := u32_bd (iss + 1)
  have e2 := u32_bd (irs + 1)
  refine ⟨h1, ⟨?_, ?_⟩, h2, ⟨?_, ?_⟩, e1, e2, ?_, ⟨?_, ?_⟩, ?_⟩ <;> simp only [gAk] <;> first | omega | decide
theorem ci_b (hi : 0 ≤ iss ∧ iss ≤ 4294967295) (hj : 0 ≤ irs ∧ irs ≤ 4294967295) (hm : 8 ≤ own ∧ own ≤ 1000) {mo : Int} (ho : 8 ≤ mo ∧ mo ≤ 1000) (hl : okP lp) (hr : okP rp) (h1 : 0 ≤ la ∧ la ≤ 4294967295) (h2 : 0 ≤ ra ∧ ra ≤ 4294967295) :
    CI (cB1 la lp ra rp iss irs own (cMss own mo)) 0 ∧ CI (cE la lp ra rp iss irs own (cMss own mo) 1 1 0 false) 1 := by
  have h := (ci_take (la := la) (lp := lp) hi hm (gSyn ra rp la lp irs mo) (by decide : (0 : Int) ≤ 2048 ∧ (2048 : Int) ≤ 65535) hj).out.1
  have e : cTake la lp (gSyn ra rp la lp irs mo) iss own = { cB1 la lp ra rp iss irs own (cMss own mo) with o := newOQ, clock := -1, meas := 0 } := rfl
  rw [e, out_b hi (cMss_in hm).1] at h
  have hs := (ci_sa (la := ra) (lp := rp) (ra := la) (rp := lp) hj hi ho hm hr hl h2 h1).2.2.2
  have h3 := (h.in_ (by decide) (gAk ra rp la lp irs iss) hs).1
  rw [in_ak hl hr (cMss_in hm)] at h3
  exact ⟨h, h3⟩
end
end Go.Proofs.Ytfpifahkpkjfgaa
