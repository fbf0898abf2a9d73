/- What ConnBlind needs, a part: CnBo, CnQp, CnBl. -/
import Derived.Test.YtfpifahkpkjfgaaMZ
import Derived.Test.YtfpifahkpkjfgaaMCnPc30
/- conn: two that dial one another at the same time meet (plain). -/
namespace Go.Proofs.Ytfpifahkpkjfgaa
open Go.RowKit Go.Lib
set_option linter.unusedVariables false
set_option linter.unusedSimpArgs false
section
variable {la lp ra rp iss irs own m : Int}
/-- one that has dialled, and to which the other one's SYN has come -/
def cS1 (la lp ra rp iss irs own m : Int) : KCn := ⟨la, lp, ra, rp, 2, 0, ⟨[], 1, 0, 0, 1, false⟩, iss, irs, own, m, 2048, 0, 0, ⟨false, 0, 0, 0⟩, 0, -1, 0, 0, 0, false, false, false, false, 1, 0, [], some (newIQ, ⟨m, 2 * m, 65535⟩)⟩
theorem in_syn {mo : Int} (hl : okP lp) (hr : okP rp) (hm : 8 ≤ mo ∧ mo ≤ 1000) :
  cIn (cA1 la lp ra rp iss own) (gSyn ra rp la lp irs mo) = cS1 la lp ra rp iss irs own (cMss own mo) := by
 have he : cInE (cA1 la lp ra rp iss own) (gSyn ra rp la lp irs mo) = 0 := by
  unfold cInE
  rw [if_neg (by rw [chk_syn hr hl hm]; exact fun h => h rfl), if_neg (fun h => h ⟨rfl, rfl, rfl, rfl⟩), if_neg (show ¬ (cA1 la lp ra rp iss own).st = 0 from (show ¬ (1 : Int) = 0 by decide))]
 unfold cIn
 rw [if_neg (by rw [he]; exact fun h => h rfl), if_pos (show (cA1 la lp ra rp iss own).st = 1 from rfl)]
 unfold cFirst
 rw [if_neg (fun h => by cases h.1), if_neg (show ¬ (gSyn ra rp la lp irs mo).rst = true from fun h => by cases h), if_pos (show (gSyn ra rp la lp irs mo).syn = true from rfl), if_neg (show ¬ (gSyn ra rp la lp irs mo).has = true from fun h => by cases h)]
 exact settle_off (c := { cS1 la lp ra rp iss irs own (cMss own mo) with clock := 0 }) (.inr (.inr (nowait (show (0 : Int) ≤ 0 by decide) (show (2048 : Int) ≠ 0 by decide))))
theorem out_s1 (hi : 0 ≤ iss ∧ iss ≤ 4294967295) (hm : 8 ≤ m) :
  cOut (cS1 la lp ra rp iss irs own m) = (cB1 la lp ra rp iss irs own m, [gSA la lp ra rp iss irs own]) := by
 have hd : decide ((1 : Int) ≤ m) = true := decide_eq_true (by omega)
 obtain ⟨c, hc⟩ : ∃ z : KCn, z = cS1 la lp ra rp iss irs own m := ⟨_, rfl⟩
 have co : c.o = ⟨[], 1, 0, 0, 1, false⟩ := by rw [hc]; rfl
 have cm : c.mss = m := by rw [hc]; rfl
 have h1 : cIsP c 1 = true := by
  unfold cIsP
  rw [co, cm]
  show (decide ((0 : Int) < 1) && decide (1 ≤ m)) = true
  rw [hd]; rfl
 have hq : qPiece ⟨[], 1, 0, 0, 1, false⟩ 0 1 m = ⟨0, true, false, ⟨#[]⟩⟩ := by
  unfold cIsP at h1
  rw [co, cm] at h1
  unfold qPiece
  rw [if_pos h1]; rfl
 have hp : cPc c 1 = ⟨0, true, false, ⟨#[]⟩⟩ := by
  unfold cPc
  rw [co, cm]; exact hq
 have hn : oNext ⟨[], 1, 0, 0, 1, false⟩ 1 m = ⟨[], 1, 0, 1, 1, false⟩ := by
  unfold oNext
  rw [show qPiece (⟨[], 1, 0, 0, 1, false⟩ : OQ) (⟨[], 1, 0, 0, 1, false⟩ : OQ).cur 1 m = ⟨0, true, false, ⟨#[]⟩⟩ from hq]; rfl
 have hs : cStep c 1 = { cB1 la lp ra rp iss irs own m with clock := -1 } := by
  unfold cStep
  rw [hp, co, cm, hn, hc]
  rfl
 have hl : cLimit c = 1 := by unfold cLimit; rw [co]; rfl
 rw [← hc, out_one (by rw [hc]; exact (show (2 : Int) ≠ 0 by decide)) (by rw [hc]; rfl) (by rw [hc]; rfl) (by rw [hl]; exact h1) (by rw [hl, hs]; show (decide ((1 : Int) < 1) && decide (1 ≤ m)) = false; rfl)]
 rw [hl, hs, hp]
 refine Prod.ext ?_ ?_
 ·exact settle_on (c := { cB1 la lp ra rp iss irs own m with clock := -1, owed := false, again := false, probe := false }) (show (2 : Int) ≠ 0 by decide) (show (2 : Int) ≠ 9 by decide) (.inl (show (0 : Int) < 1 by decide)) (show (-1 : Int) < 0 by decide)
 ·have e : u32 (iss + u32 0) = iss := by unfold u32; omega
  have e2 : u32 (irs + u32 1) = u32 (irs + 1) := u32_add _ _
  rw [hc]
  show [({ (⟨la, lp, ra, rp, u32 (iss + u32 0), u32 (irs + u32 1), false, true, false, false, 2048 - (1 - 1), 0, ⟨#[]⟩⟩ : KSeg) with syn := true, fin := false, b := ⟨#[]⟩, mss := own } : KSeg)] = _
  rw [e, e2]; rfl
theorem settle_same {c : KCn} (h0 : c.st ≠ 0) (h9 : c.st ≠ 9) (hw : cWaits c) (hc : 0 ≤ c.clock) : cSettle c = c := by
 unfold cSettle
 rw [if_neg (by
  rintro (h | h | h)
  ·exact h0 h
  ·exact h9 h
  ·exact h hw), if_neg (by omega)]
theorem in_sa2 {mo : Int} (hl : okP lp) (hr : okP rp) (hi : 0 ≤ irs ∧ irs ≤ 4294967295) (hm : 8 ≤ mo ∧ mo ≤ 1000) :
  cIn (cB1 la lp ra rp iss irs own m) (gSA ra rp la lp irs iss mo) = { cB1 la lp ra rp iss irs own m with owed := true } := by
 obtain ⟨g, hg⟩ : ∃ z, z = gSA ra rp la lp irs iss mo := ⟨_, rfl⟩
 obtain ⟨c, hc⟩ : ∃ z, z = cB1 la lp ra rp iss irs own m := ⟨_, rfl⟩
 have he : cInE c g = 0 := by
  rw [hc, hg]
  unfold cInE
  rw [if_neg (by rw [chk_sa hr hl hm]; exact fun h => h rfl), if_neg (fun h => h ⟨rfl, rfl, rfl, rfl⟩), if_neg (show ¬ (cB1 la lp ra rp iss irs own m).st = 0 from (show ¬ (2 : Int) = 0 by decide))]
 have hs : g.seq = u32 (c.irs + 0) := by rw [hc, hg]; exact (show irs = u32 (irs + 0) by rw [Int.add_zero, u32_id hi.1 hi.2])
 have hac : accB g.seq (sgLen g) (cWant c) (cRoomI c) = false := by
  rw [hs, want_is, show (cQ c).nx = 1 by rw [hc]; rfl, show sgLen g = 1 by rw [hg]; rfl, show cRoomI c = 2048 by rw [hc]; rfl, acc_is (by decide) (by decide) (by decide) (by decide)]
  exact decide_eq_false (by decide)
 rw [← hc, ← hg]
 unfold cIn
 rw [if_neg (by rw [he]; exact fun h => h rfl), if_neg (show ¬ c.st = 1 by rw [hc]; exact (show ¬ (2 : Int) = 1 by decide))]
 have hn : cNext c g = { c with owed := true } := by
  unfold cNext
  rw [if_pos hac, if_neg (by rw [hg]; exact fun h => by cases h.2), hc, hg]
  rfl
 rw [hn, hc]
 exact settle_same (c := { cB1 la lp ra rp iss irs own m with owed := true }) (show (2 : Int) ≠ 0 by decide) (show (2 : Int) ≠ 9 by decide) (.inl (show (0 : Int) < 1 by decide)) (show (0 : Int) ≤ 0 by decide)
theorem out_b1 : cOut { cB1 la lp ra rp iss irs own m with owed := true } = (cB1 la lp ra rp iss irs own m, [gAk la lp ra rp iss irs]) := by
 have hi : cIsP { cB1 la lp ra rp iss irs own m with owed := true } (cLimit { cB1 la lp ra rp iss irs own m with owed := true }) = false := rfl
 rw [out_none (show (2 : Int) ≠ 0 by decide) rfl rfl hi]
 refine Prod.ext ?_ ?_
 ·exact settle_same (c := cB1 la lp ra rp iss irs own m) (show (2 : Int) ≠ 0 by decide) (show (2 : Int) ≠ 9 by decide) (.inl (show (0 : Int) < 1 by decide)) (show (0 : Int) ≤ 0 by decide)
 ·show [(⟨la, lp, ra, rp, u32 (iss + u32 1), u32 (irs + u32 1), false, true, false, false, 2048 - (1 - 1), 0, ⟨#[]⟩⟩ : KSeg)] = _
  rw [u32_add, u32_add]
  rfl
end
/-- one of the two, and what it has sent, at the beginning of round t -/
def bo (la lp ra rp iss irs own mo : Int) : Nat → KCn × List KSeg
 | 0 => (cA1 la lp ra rp iss own, [gSyn la lp ra rp iss own])
 | 1 => (cB1 la lp ra rp iss irs own (cMss own mo), [gSA la lp ra rp iss irs own])
 | 2 => (cB1 la lp ra rp iss irs own (cMss own mo), [gAk la lp ra rp iss irs])
 | _ + 3 => (cE la lp ra rp iss irs own (cMss own mo) 1 1 0 false, [])
section
variable {la lp ra rp iss irs own mo : Int}
theorem bo_step (t : Nat) (hl : okP lp) (hr : okP rp) (hi : 0 ≤ iss ∧ iss ≤ 4294967295) (hj : 0 ≤ irs ∧ irs ≤ 4294967295) (ho : 8 ≤ own ∧ own ≤ 1000) (hm : 8 ≤ mo ∧ mo ≤ 1000) :
    cOut ((bo ra rp la lp irs iss mo own t).2.foldl cIn (bo la lp ra rp iss irs own mo t).1) = bo la lp ra rp iss irs own mo (t + 1) := by
  have hmm := cMss_in (m := mo) ho
  match t with
  | 0 =>
    show cOut (cIn (cA1 la lp ra rp iss own) (gSyn ra rp la lp irs mo)) = _
    rw [in_syn hl hr hm, out_s1 hi hmm.1]; rfl
  | 1 =>
    show cOut (cIn (cB1 la lp ra rp iss irs own (cMss own mo)) (gSA ra rp la lp irs iss mo)) = _
    rw [in_sa2 hl hr hj hm, out_b1]; rfl
  | 2 =>
    show cOut (cIn (cB1 la lp ra rp iss irs own (cMss own mo)) (gAk ra rp la lp irs iss)) = _
    rw [in_ak hl hr hmm, out_e hmm]; rfl
  | n + 3 =>
    show cOut (cE la lp ra rp iss irs own (cMss own mo) 1 1 0 false) = _
    rw [out_e hmm]; rfl
theorem bo_len (t : Nat) : (bo la lp ra rp iss irs own mo t).2.length ≤ 1 := by
 match t with
 | 0 => exact Nat.le_refl 1
 | 1 => exact Nat.le_refl 1
 | 2 => exact Nat.le_refl 1
 | n + 3 => exact Nat.zero_le 1
theorem bo_seg (t : Nat) (hl : okP lp) (hr : okP rp) (hi : 0 ≤ iss ∧ iss ≤ 4294967295) (hj : 0 ≤ irs ∧ irs ≤ 4294967295) (ho : 8 ≤ own ∧ own ≤ 1000) (hm : 8 ≤ mo ∧ mo ≤ 1000) (h1 : 0 ≤ la ∧ la ≤ 4294967295) (h2 : 0 ≤ ra ∧ ra ≤ 4294967295) : ∀ g ∈ (bo la lp ra rp iss irs own mo t).2, SegOk g := by
 have hs := (ci_sa (la := ra) (lp := rp) (ra := la) (rp := lp) hj hi hm ho hr hl h2 h1).1
 have hk := (ci_sa (la := la) (lp := lp) (ra := ra) (rp := rp) hi hj ho hm hl hr h1 h2).2.2.2
 match t with
 | 0 => intro g hg; rw [List.mem_singleton.1 hg]; exact syn_ok h1 hl h2 hr hi ho
 | 1 => intro g hg; rw [List.mem_singleton.1 hg]; exact hs
 | 2 => intro g hg; rw [List.mem_singleton.1 hg]; exact hk
 | n + 3 => intro g hg; cases hg
theorem bo_ci (t : Nat) (hl : okP lp) (hr : okP rp) (hi : 0 ≤ iss ∧ iss ≤ 4294967295) (hj : 0 ≤ irs ∧ irs ≤ 4294967295) (ho : 8 ≤ own ∧ own ≤ 1000) (hm : 8 ≤ mo ∧ mo ≤ 1000) (h1 : 0 ≤ la ∧ la ≤ 4294967295) (h2 : 0 ≤ ra ∧ ra ≤ 4294967295) : CI (bo la lp ra rp iss irs own mo t).1 1 := by
 have hb := ci_b (la := la) (lp := lp) (ra := ra) (rp := rp) hi hj ho hm hl hr h1 h2
 match t with
 | 0 => exact (ci_a1 hi ho).mono (by decide)
 | 1 => exact hb.1.mono (by decide)
 | 2 => exact hb.1.mono (by decide)
 | n + 3 => exact hb.2
end
end Go.Proofs.Ytfpifahkpkjfgaa
/- conn: what always holds of a pair's own words (plain). -/
namespace Go.Proofs.Ytfpifahkpkjfgaa
open Go.RowKit Go.Lib
set_option linter.unusedVariables false
set_option linter.unusedSimpArgs false
/-- what always holds of a pair's own words -/
structure POk (p : KPa) : Prop where
 e0 : 0 ≤ p.e0 ∧ p.e0 ≤ 4294967295
 e1 : 0 ≤ p.e1 ∧ p.e1 ≤ 4294967295
theorem sdTell_t (p : KPa) (g : KSeg) : sdTell true p g = if g.has = true ∧ g.rst = false ∧ (p.t1 = false ∨ lessB p.e1 (sdEdge g) = true) then { p with e1 := sdEdge g, t1 := true } else p := rfl
theorem sdTell_f (p : KPa) (g : KSeg) : sdTell false p g = if g.has = true ∧ g.rst = false ∧ (p.t0 = false ∨ lessB p.e0 (sdEdge g) = true) then { p with e0 := sdEdge g, t0 := true } else p := rfl
theorem sdOk_t {p : KPa} {g : KSeg} (hok : sdOk true p g = true) : (p.t0 && (decide (0 < (g.b.size : Int)) && decide (dZ ((p.e0 + 1) % 4294967296) ((g.seq + u32 g.b.size) % 4294967296) < 0))) = false := by
 unfold sdOk at hok
 simp only [Bool.and_eq_true, Bool.not_eq_true'] at hok
 exact hok.2
theorem sdOk_f {p : KPa} {g : KSeg} (hok : sdOk false p g = true) : (p.t1 && (decide (0 < (g.b.size : Int)) && decide (dZ ((p.e1 + 1) % 4294967296) ((g.seq + u32 g.b.size) % 4294967296) < 0))) = false := by
 unfold sdOk at hok
 simp only [Bool.and_eq_true, Bool.not_eq_true'] at hok
 exact hok.2
theorem POk.step {p : KPa} (h : POk p) (i : Bool) (g : KSeg) : POk (sdStep i p g) := by
  have hu := u32_bd (g.ack + u32 g.win)
  have h1 : POk (sdTell i p g) := by
    cases i with
    | true =>
      rw [sdTell_t]
      split
      · exact ⟨h.e0, hu⟩
      · exact h
    | false =>
      rw [sdTell_f]
      split
      · exact ⟨hu, h.e1⟩
      · exact h
  unfold sdStep sdAir
  split
  · exact ⟨h1.e0, h1.e1⟩
  · exact h1
theorem sdTell_air (i : Bool) (p : KPa) (g : KSeg) : (sdTell i p g).air = p.air := by
 cases i with
 | true => rw [sdTell_t]; split <;> rfl
 | false => rw [sdTell_f]; split <;> rfl
theorem sdStep_air (i : Bool) (p : KPa) (g : KSeg) (n : Nat) (h : p.air.length ≤ n) (hn : 200 ≤ n) : (sdStep i p g).air.length ≤ n := by
 unfold sdStep sdAir
 rw [sdTell_air]
 split
 ·simp only [List.length_append, List.length_singleton, sdTell_air]; omega
 ·rw [sdTell_air]; exact h
theorem sdList_bd (i : Bool) (n : Nat) (hn : 200 ≤ n) : ∀ (l : List KSeg) (p q : KPa), sdList i p l = some q → POk p → p.air.length ≤ n → POk q ∧ q.air.length ≤ n
  | [], p, q, h, h1, h2 => by
    have : p = q := by simpa [sdList] using h
    subst this
    exact ⟨h1, h2⟩
  | g :: l, p, q, h, h1, h2 => by
    unfold sdList at h
    split at h
    · exact sdList_bd i n hn l _ q h (h1.step i g) (sdStep_air i p g n h2 hn)
    · cases h
theorem prM_app {l : KPl} {x : KPr} {m : List Res} : prM l x [] ++ m = prM l x m := by
 unfold prM
 simp only [List.cons_append, List.append_assoc, List.nil_append]
/-- the first struct of a row goes -/
theorem MemX.cut {E : Nat → Prop} {w W : World} {l : List Res} {α : Type} {f : α → List Value} {size g off n cap : Nat} {r : α} {rs : List α} (h : MemX E w W l) (k : Nat) (hk : l[k]? = some (rowR size f (.slice (some ⟨g, off, none⟩) (n + 1) cap) (r :: rs))) (hn : rs.length = n) (hf : ∀ r, (f r).length = size) :
  MemX E w W (l.set k (rowR size f (.slice (if cap = 1 then some ⟨g, off, none⟩ else some ⟨g, off + size, none⟩) n (cap - 1)) rs)) := by
 have hW : Win W 0 size (.slice (some ⟨g, off, none⟩) (n + 1) cap) (r :: rs).length ((r :: rs).flatMap f) := h.row k hk
 obtain ⟨g', off', cap', e, hA⟩ := hW.pos (by simp)
 injection e with e1 _ e3
 injection e1 with e1
 injection e1 with e4 e5 _
 subst e4; subst e5; subst e3
 rw [List.length_cons, hn, List.flatMap_cons] at hA
 have hl : (rs.flatMap f).length = n * size := by rw [rows_len rs fun q _ => hf q, hn]
 have hC := hA.cut (hf r) hl
 have hlt := hA.lt
 refine h.upd k hk (World.grownBy.refl _ _) (winR_stab _ _ _ _ _) (by show Win _ _ _ _ _ _; rw [hn]; exact hC) (fun j hj => ?_)
 have hj' : (if cap = 1 then some (⟨g, off, none⟩ : Addr) else some ⟨g, off + size, none⟩).map (·.block) = some j := by
  have h2 : (Value.slice (if cap = 1 then some (⟨g, off, none⟩ : Addr) else some ⟨g, off + size, none⟩) n (cap - 1)).ownBlock = some j := hj
  split at h2 <;> (rename_i hc; first | rw [if_pos hc] | rw [if_neg hc]) <;> exact h2
 have e : j = g := by
  split at hj' <;> (injection hj' with hj'; exact hj'.symm)
 subst e
 exact ⟨.inl rfl, hlt⟩
end Go.Proofs.Ytfpifahkpkjfgaa
/- conn: ConnBlind, plain: two meet; then one who does not know the next number tries to break it off. -/
namespace Go.Proofs.Ytfpifahkpkjfgaa
open Go.RowKit Go.Lib
set_option linter.unusedVariables false
set_option linter.unusedSimpArgs false
theorem row_one' {E : Nat → Prop} {w W : World} {v : Value} {g : KSeg} {m : List Res} (k : Nat) (h : MemX E w W m) (hk : m[k]? = some (rowR 13 cSeg v [g])) : ∃ b off q, v = .slice (some ⟨b, off, none⟩) 1 q := by
 obtain ⟨g', off', cap', e, _⟩ := (h.row (f := cSeg) (rs := [g]) k hk).pos (by show 0 < 1; decide)
 exact ⟨g', off', cap', e⟩
theorem exec_eqs {P : Program} {o : Oper} {a : Act} (T : TypeId) (x y : Operand) (R : TypeId) (ho : o.op = .binOp .eql T x y R) (X Y : Array Value) (hx : a.eval x = .agg X) (hy : a.eval y = .agg Y) (hg : P.eqGuardType P.depth T = false) (b : Bool) (heq : ∀ W, (Op.equalIn 10000 T (.agg X) (.agg Y)).run P W = .ok b W) (w : World) : (execOp a.eval o).run P w = .ok (.value (.bool b)) w := by
 unfold execOp
 simp only [ho, hx, hy, Sem.run_bind, run_eqGuard_agg (hm := hg), run_eql_struct, heq, Sem.run_pure, Result.andThen_ok]
theorem go_front {E : Nat → Prop} {w W : World} {s p a G : Res} {X Y : List Res} (h : MemX E w W (s :: p :: a :: (X ++ (Y ++ [G])))) : MemX E w W (G :: s :: p :: a :: (X ++ Y)) := by
 have e : s :: p :: a :: (X ++ (Y ++ [G])) = (s :: p :: a :: (X ++ Y)) ++ [G] := by simp
 rw [e] at h
 exact h.perm List.perm_append_comm
theorem go_rear {E : Nat → Prop} {w W : World} {s p a G : Res} {X Y : List Res} (h : MemX E w W (G :: s :: p :: a :: (X ++ Y))) : MemX E w W (s :: p :: a :: (X ++ (Y ++ [G]))) := by
 have e : s :: p :: a :: (X ++ (Y ++ [G])) = (s :: p :: a :: (X ++ Y)) ++ [G] := by simp
 rw [e]
 exact h.perm (List.perm_append_comm (l₁ := [G]))
/-- all that is in the air comes -/
def come2 (x : KCn × KCn) (g : KSeg) : KCn × KCn := if g.ta = 2 ∧ g.tp = 80 then (x.1, cIn x.2 g) else (cIn x.1 g, x.2)
def drain (x : KPr) : KPr := ⟨(x.p.air.foldl come2 (x.a, x.b)).1, (x.p.air.foldl come2 (x.a, x.b)).2, { x.p with air := [] }⟩
def eA1 (iss : Int) : KCn := cA1 1 40000 2 80 iss 508
def eA (iss irs : Int) (owed : Bool) : KCn := cE 1 40000 2 80 iss irs 508 508 0 0 0 owed
def eB1 (iss irs : Int) : KCn := cB1 2 80 1 40000 irs iss 508 508
def eB (iss irs : Int) : KCn := cE 2 80 1 40000 irs iss 508 508 1 1 0 false
def gS (iss irs : Int) : KSeg := gSA 2 80 1 40000 irs iss 508
def gK (iss irs : Int) : KSeg := gAk 1 40000 2 80 iss irs
def pa1 (iss irs : Int) : KPa := { pa0 with e0 := u32 (u32 (iss + 1) + u32 2048), t0 := true }
def pa2 (iss irs : Int) : KPa := { pa1 iss irs with e1 := u32 (u32 (irs + 1) + u32 2048), t1 := true }
/-- at the beginning of round t -/
def bl (iss irs : Int) : Nat → KPr
 | 0 => ⟨eA1 iss, eB1 iss irs, { pa1 iss irs with air := [gS iss irs] }⟩
 | 1 => ⟨eA iss irs false, eB1 iss irs, { pa2 iss irs with air := [gK iss irs] }⟩
 | _ + 2 => ⟨eA iss irs false, eB iss irs, pa2 iss irs⟩
section
variable {iss irs : Int}
theorem out_a1 {la lp ra rp iss own : Int} : cOut (cA1 la lp ra rp iss own) = (cA1 la lp ra rp iss own, []) := by
 rw [out_none (show (1 : Int) ≠ 0 by decide) rfl rfl rfl]
 refine Prod.ext ?_ rfl
 exact settle_same (c := cA1 la lp ra rp iss own) (show (1 : Int) ≠ 0 by decide) (show (1 : Int) ≠ 9 by decide) (.inl (show (0 : Int) < 1 by decide)) (show (0 : Int) ≤ 0 by decide)
theorem out_b1' {la lp ra rp iss irs own m : Int} : cOut (cB1 la lp ra rp iss irs own m) = (cB1 la lp ra rp iss irs own m, []) := by
 rw [out_none (show (2 : Int) ≠ 0 by decide) rfl rfl rfl]
 refine Prod.ext ?_ rfl
 exact settle_same (c := cB1 la lp ra rp iss irs own m) (show (2 : Int) ≠ 0 by decide) (show (2 : Int) ≠ 9 by decide) (.inl (show (0 : Int) < 1 by decide)) (show (0 : Int) ≤ 0 by decide)
theorem sends_is {x : KPr} {p1 p2 : KPa} {a b : KCn} {l m : List KSeg} (ha : cOut x.a = (a, l)) (hb : cOut x.b = (b, m)) (h1 : sdList true x.p l = some p1) (h2 : sdList false p1 m = some p2) : sends x = some ⟨a, b, p2⟩ := by
 unfold sends
 rw [ha, hb]
 dsimp only
 rw [h1]
 dsimp only
 rw [h2]
theorem sd_one {i : Bool} {p : KPa} {g : KSeg} (h : sdOk i p g = true) : sdList i p [g] = some (sdStep i p g) := by
 unfold sdList
 rw [if_pos h]
 rfl
theorem sd_gS (p : KPa) (ha : p.air = []) (ht : p.t0 = false) : sdList false p [gS iss irs] = some { p with e0 := u32 (u32 (iss + 1) + u32 2048), t0 := true, air := [gS iss irs] } := by
 have hc : tcChk (gS iss irs) = 0 := chk_sa (by decide) (by decide) (by decide)
 rw [sd_one (by
  unfold sdOk
  rw [hc]
  show (true && (true && true) && !(p.t1 && (decide ((0 : Int) < ((0 : Nat) : Int)) && _))) = true
  rw [show decide ((0 : Int) < ((0 : Nat) : Int)) = false from rfl, Bool.false_and, Bool.and_false]; rfl)]
 unfold sdStep
 rw [show sdTell false p (gS iss irs) = { p with e0 := u32 (u32 (iss + 1) + u32 2048), t0 := true } from if_pos ⟨rfl, rfl, .inl ht⟩]
 unfold sdAir
 rw [if_pos (by rw [ha]; decide), ha]
 rfl
theorem sd_gK (p : KPa) (ha : p.air = []) (ht : p.t1 = false) : sdList true p [gK iss irs] = some { p with e1 := u32 (u32 (irs + 1) + u32 2048), t1 := true, air := [gK iss irs] } := by
 have hc : tcChk (gK iss irs) = 0 := chk_ak (by decide) (by decide)
 rw [sd_one (by
  unfold sdOk
  rw [hc]
  show (true && (true && true) && !(p.t0 && (decide ((0 : Int) < ((0 : Nat) : Int)) && _))) = true
  rw [show decide ((0 : Int) < ((0 : Nat) : Int)) = false from rfl, Bool.false_and, Bool.and_false]; rfl)]
 unfold sdStep
 rw [show sdTell true p (gK iss irs) = { p with e1 := u32 (u32 (irs + 1) + u32 2048), t1 := true } from if_pos ⟨rfl, rfl, .inl ht⟩]
 unfold sdAir
 rw [if_pos (by rw [ha]; decide), ha]
 rfl
theorem bl_start (hi : 0 ≤ iss ∧ iss ≤ 4294967295) (hj : 0 ≤ irs ∧ irs ≤ 4294967295) : sends (pr0 iss irs 508 508) = some (bl iss irs 0) := by
 have hb : cOut (cTake 2 80 (gSyn 1 40000 2 80 iss 508) irs 508) = (eB1 iss irs, [gS iss irs]) := out_b (la := 2) (lp := 80) (ra := 1) (rp := 40000) (own := 508) (m := 508) hj (by decide)
 exact sends_is (out_a1 (la := 1) (lp := 40000) (ra := 2) (rp := 80)) hb rfl (sd_gS _ rfl rfl)
theorem drain0 (hi : 0 ≤ iss ∧ iss ≤ 4294967295) (hj : 0 ≤ irs ∧ irs ≤ 4294967295) : drain (bl iss irs 0) = ⟨eA iss irs true, eB1 iss irs, pa1 iss irs⟩ := by
 have h : cIn (eA1 iss) (gS iss irs) = eA iss irs true := in_sa (la := 1) (lp := 40000) (ra := 2) (rp := 80) (own := 508) (mo := 508) (by decide) (by decide) (by decide) (by decide)
 have e : ([gS iss irs].foldl come2 (eA1 iss, eB1 iss irs)) = (cIn (eA1 iss) (gS iss irs), eB1 iss irs) := by
  show come2 (eA1 iss, eB1 iss irs) (gS iss irs) = _
  unfold come2
  rw [if_neg (show ¬ ((gS iss irs).ta = 2 ∧ (gS iss irs).tp = 80) from (show ¬ ((1 : Int) = 2 ∧ (40000 : Int) = 80) by decide))]
 show (⟨([gS iss irs].foldl come2 (eA1 iss, eB1 iss irs)).1, ([gS iss irs].foldl come2 (eA1 iss, eB1 iss irs)).2, pa1 iss irs⟩ : KPr) = _
 rw [e, h]
theorem drain1 (hi : 0 ≤ iss ∧ iss ≤ 4294967295) (hj : 0 ≤ irs ∧ irs ≤ 4294967295) : drain (bl iss irs 1) = ⟨eA iss irs false, eB iss irs, pa2 iss irs⟩ := by
 have h : cIn (eB1 iss irs) (gK iss irs) = eB iss irs := in_ak (la := 2) (lp := 80) (ra := 1) (rp := 40000) (own := 508) (m := 508) (by decide) (by decide) (by decide)
 have e : ([gK iss irs].foldl come2 (eA iss irs false, eB1 iss irs)) = (eA iss irs false, cIn (eB1 iss irs) (gK iss irs)) := by
  show come2 (eA iss irs false, eB1 iss irs) (gK iss irs) = _
  unfold come2
  rw [if_pos (show ((gK iss irs).ta = 2 ∧ (gK iss irs).tp = 80) from (show ((2 : Int) = 2 ∧ (80 : Int) = 80) by decide))]
 show (⟨([gK iss irs].foldl come2 (eA iss irs false, eB1 iss irs)).1, ([gK iss irs].foldl come2 (eA iss irs false, eB1 iss irs)).2, pa2 iss irs⟩ : KPr) = _
 rw [e, h]
theorem bl_step (t : Nat) (hi : 0 ≤ iss ∧ iss ≤ 4294967295) (hj : 0 ≤ irs ∧ irs ≤ 4294967295) : sends (drain (bl iss irs t)) = some (bl iss irs (t + 1)) := by
 have ha : cOut (eA iss irs false) = (eA iss irs false, []) := out_e (m := 508) (by decide)
 have ha2 : cOut (eA iss irs true) = (eA iss irs false, [gK iss irs]) := out_e (m := 508) (by decide)
 have hb : cOut (eB iss irs) = (eB iss irs, []) := out_e (m := 508) (by decide)
 match t with
 | 0 => rw [drain0 hi hj]; exact sends_is ha2 out_b1' (sd_gK _ rfl rfl) rfl
 | 1 => rw [drain1 hi hj]; exact sends_is ha hb rfl rfl
 | n + 2 => exact sends_is ha hb rfl rfl
theorem bl_air (t : Nat) : (bl iss irs t).p.air = [] ∨ ∃ g, (bl iss irs t).p.air = [g] := by
 match t with
 | 0 => exact .inr ⟨_, rfl⟩
 | 1 => exact .inr ⟨_, rfl⟩
 | n + 2 => exact .inl rfl
theorem bl_seg (t : Nat) (hi : 0 ≤ iss ∧ iss ≤ 4294967295) (hj : 0 ≤ irs ∧ irs ≤ 4294967295) : ∀ g ∈ (bl iss irs t).p.air, SegOk g := by
 obtain ⟨h1, _, _, h2⟩ := ci_sa (la := 1) (lp := 40000) (ra := 2) (rp := 80) (own := 508) hi hj (by decide) (mo := 508) (by decide) (by decide) (by decide) (by decide) (by decide)
 match t with
 | 0 => intro g hg; rw [List.mem_singleton.1 hg]; exact h1
 | 1 => intro g hg; rw [List.mem_singleton.1 hg]; exact h2
 | n + 2 => intro g hg; cases hg
theorem bl_ci (t : Nat) (hi : 0 ≤ iss ∧ iss ≤ 4294967295) (hj : 0 ≤ irs ∧ irs ≤ 4294967295) : CI (bl iss irs t).a 1 ∧ CI (bl iss irs t).b 1 ∧ CI (drain (bl iss irs t)).a 1 ∧ CI (drain (bl iss irs t)).b 1 ∧ POk (bl iss irs t).p ∧ (∀ g ∈ (cOut (drain (bl iss irs t)).a).2, SegOk g) ∧ (∀ g ∈ (cOut (drain (bl iss irs t)).b).2, SegOk g) := by
  obtain ⟨g1, h1, h2, g2⟩ := ci_sa (la := 1) (lp := 40000) (ra := 2) (rp := 80) (own := 508) hi hj (by decide) (mo := 508) (by decide) (by decide) (by decide) (by decide) (by decide)
  obtain ⟨h3, h4⟩ := ci_b (la := 2) (lp := 80) (ra := 1) (rp := 40000) (own := 508) hj hi (by decide) (mo := 508) (by decide) (by decide) (by decide) (by decide) (by decide)
  have h0 : CI (eA1 iss) 1 := (ci_a1 hi (by decide)).mono (by decide)
  have h5 : CI (eB1 iss irs) 1 := h3.mono (by decide)
  have ha : cOut (eA iss irs false) = (eA iss irs false, []) := out_e (m := 508) (by decide)
  have ha2 : cOut (eA iss irs true) = (eA iss irs false, [gK iss irs]) := out_e (m := 508) (by decide)
  have hb : cOut (eB iss irs) = (eB iss irs, []) := out_e (m := 508) (by decide)
  have p1 : POk (pa1 iss irs) := ⟨u32_bd _, (by decide : (0 : Int) ≤ 0 ∧ (0 : Int) ≤ 4294967295)⟩
  have p2 : POk (pa2 iss irs) := ⟨u32_bd _, u32_bd _⟩
  match t with
  | 0 =>
    rw [drain0 hi hj]
    refine ⟨h0, h5, h1, h5, ⟨p1.e0, p1.e1⟩, ?_, ?_⟩
    · show ∀ g ∈ (cOut (eA iss irs true)).2, SegOk g
      rw [ha2]; intro g hg; rw [List.mem_singleton.1 hg]; exact g2
    · show ∀ g ∈ (cOut (cB1 2 80 1 40000 irs iss 508 508)).2, SegOk g
      rw [out_b1']; intro g hg; cases hg
  | 1 =>
    rw [drain1 hi hj]
    refine ⟨h2, h5, h2, h4, ⟨p2.e0, p2.e1⟩, ?_, ?_⟩
    · show ∀ g ∈ (cOut (eA iss irs false)).2, SegOk g
      rw [ha]; intro g hg; cases hg
    · show ∀ g ∈ (cOut (eB iss irs)).2, SegOk g
      rw [hb]; intro g hg; cases hg
  | n + 2 =>
    refine ⟨h2, h4, h2, h4, ⟨p2.e0, p2.e1⟩, ?_, ?_⟩
    · show ∀ g ∈ (cOut (eA iss irs false)).2, SegOk g
      rw [ha]; intro g hg; cases hg
    · show ∀ g ∈ (cOut (eB iss irs)).2, SegOk g
      rw [hb]; intro g hg; cases hg
theorem bl_nil {t : Nat} {x : KPr} (h : x = bl iss irs t ∨ x = drain (bl iss irs t)) (ha : x.p.air = []) : x = drain (bl iss irs t) := by
 rcases h with h | h
 ·have e : drain x = x := by
   obtain ⟨a, b, p⟩ := x
   obtain ⟨⟩ := p
   simp only at ha
   subst ha
   rfl
  rw [← h, e]
 ·exact h
theorem bl_cons {t : Nat} {x : KPr} {g : KSeg} {l : List KSeg} (h : x = bl iss irs t ∨ x = drain (bl iss irs t)) (ha : x.p.air = g :: l) :
  l = [] ∧ x = bl iss irs t ∧ g ∈ (bl iss irs t).p.air ∧ ((g.ta = 2 ∧ g.tp = 80) → drain (bl iss irs t) = ⟨x.a, cIn x.b g, { x.p with air := [] }⟩) ∧ (¬ (g.ta = 2 ∧ g.tp = 80) → drain (bl iss irs t) = ⟨cIn x.a g, x.b, { x.p with air := [] }⟩) := by
 have h1 : x = bl iss irs t := by
  rcases h with h | h
  ·exact h
  ·rw [h] at ha
   cases ha
 have h2 := bl_air (iss := iss) (irs := irs) t
 rw [← h1, ha] at h2
 have h3 : l = [] := by
  rcases h2 with h2 | ⟨g', h2⟩
  ·cases h2
  ·injection h2
 refine ⟨h3, h1, by rw [← h1, ha]; exact List.mem_cons_self, fun ht => ?_, fun ht => ?_⟩
 ·rw [← h1]
  unfold drain
  rw [ha, h3]
  show (⟨(come2 (x.a, x.b) g).1, (come2 (x.a, x.b) g).2, _⟩ : KPr) = _
  unfold come2
  rw [if_pos ht]
 ·rw [← h1]
  unfold drain
  rw [ha, h3]
  show (⟨(come2 (x.a, x.b) g).1, (come2 (x.a, x.b) g).2, _⟩ : KPr) = _
  unfold come2
  rw [if_neg ht]
/-- a RST from the other side -/
def gR (fa fp n win : Int) : KSeg := ⟨fa, fp, 1, 40000, n, 0, false, false, false, true, win, 0, ⟨#[]⟩⟩
def gY (n win : Int) : KSeg := ⟨2, 80, 1, 40000, n, 0, true, false, false, false, win, 0, ⟨#[]⟩⟩
theorem chk_gR {fa fp n win : Int} (hp : okP fp) (hw : 0 ≤ win ∧ win ≤ 65535) : tcChk (gR fa fp n win) = 0 :=
 chk_of hp (by decide : okP 40000) hw (by decide : (0 : Int) ≤ 0 ∧ (0 : Int) ≤ 65535) (.inl rfl) (fun h => by cases h) (fun h => by cases h) (.inl rfl) (Nat.zero_le _)
theorem chk_gY {n win : Int} (hw : 0 ≤ win ∧ win ≤ 65535) : tcChk (gY n win) = 0 :=
 chk_of (by decide : okP 80) (by decide : okP 40000) hw (by decide : (0 : Int) ≤ 0 ∧ (0 : Int) ≤ 65535) (.inl rfl) (fun _ => ⟨rfl, rfl⟩) (fun h => by cases h) (.inl rfl) (Nat.zero_le _)
theorem inE_ok {c : KCn} {g : KSeg} (hc : tcChk g = 0) (he : g.fa = c.ra ∧ g.fp = c.rp ∧ g.ta = c.la ∧ g.tp = c.lp) (h0 : c.st ≠ 0) : cInE c g = 0 := by
 unfold cInE
 rw [if_neg (fun h => h hc), if_neg (fun h => h he), if_neg h0]
theorem in_rst {o : Bool} {n win : Int} (hw : 0 ≤ win ∧ win ≤ 65535) :
  cInE (eA iss irs o) (gR 2 80 n win) = 0 ∧ (n = u32 (irs + 1) → (cIn (eA iss irs o) (gR 2 80 n win)).st = 0 ∧ (cIn (eA iss irs o) (gR 2 80 n win)).why = 12) ∧ (n ≠ u32 (irs + 1) → ∃ o', cIn (eA iss irs o) (gR 2 80 n win) = eA iss irs o') := by
 have he := inE_ok (c := eA iss irs o) (chk_gR (fa := 2) (n := n) (by decide : okP 80) hw) ⟨rfl, rfl, rfl, rfl⟩ (show (3 : Int) ≠ 0 by decide)
 have hw2 : cWant (eA iss irs o) = u32 (irs + 1) := want_is _
 have e1 : cIn (eA iss irs o) (gR 2 80 n win) = cSettle (cNext (eA iss irs o) (gR 2 80 n win)) := by
  unfold cIn
  rw [if_neg (by rw [he]; exact fun h => h rfl), if_neg (show ¬ (eA iss irs o).st = 1 from (show ¬ (3 : Int) = 1 by decide))]
 have hoff : ∀ o', cSettle (eA iss irs o') = eA iss irs o' := fun o' => settle_off (.inr (.inr (nowait (show (1 : Int) ≤ 1 by decide) (show (2048 : Int) ≠ 0 by decide))))
 refine ⟨he, fun hn => ?_, fun hn => ?_⟩
 ·have ha : accB n 0 (u32 (irs + 1)) 2048 = true := by
   rw [hn, acc_is (by decide) (by decide) (by decide) (by decide)]
   rfl
  have e2 : cNext (eA iss irs o) (gR 2 80 n win) = cClosed (eA iss irs o) 12 := by
   unfold cNext
   rw [hw2, if_neg (by rw [show accB (gR 2 80 n win).seq (sgLen (gR 2 80 n win)) (u32 (irs + 1)) (cRoomI (eA iss irs o)) = true from ha]; exact fun h => by cases h), if_pos ⟨rfl, hn⟩, if_neg (show ¬ (eA iss irs o).st = 9 from (show ¬ (3 : Int) = 9 by decide))]
  rw [e1, e2]
  have e3 : cSettle (cClosed (eA iss irs o) 12) = { cClosed (eA iss irs o) 12 with clock := -1 } := settle_off (.inl rfl)
  rw [e3]
  exact ⟨rfl, rfl⟩
 ·rw [e1]
  unfold cNext
  rw [hw2]
  split
  ·rw [if_neg (fun h => absurd (show (3 : Int) = 9 from h.1) (by decide))]
   exact ⟨_, hoff (o || !true)⟩
  ·rw [if_neg (fun h => hn h.2), if_pos (.inl rfl)]
   exact ⟨_, hoff true⟩
theorem in_syn3 {o : Bool} {n win : Int} (hw : 0 ≤ win ∧ win ≤ 65535) :
  cInE (eA iss irs o) (gY n win) = 0 ∧ ∃ o', cIn (eA iss irs o) (gY n win) = eA iss irs o' := by
 have he := inE_ok (c := eA iss irs o) (chk_gY (n := n) hw) ⟨rfl, rfl, rfl, rfl⟩ (show (3 : Int) ≠ 0 by decide)
 have e1 : cIn (eA iss irs o) (gY n win) = cSettle (cNext (eA iss irs o) (gY n win)) := by
  unfold cIn
  rw [if_neg (by rw [he]; exact fun h => h rfl), if_neg (show ¬ (eA iss irs o).st = 1 from (show ¬ (3 : Int) = 1 by decide))]
 have hoff : ∀ o', cSettle (eA iss irs o') = eA iss irs o' := fun o' => settle_off (.inr (.inr (nowait (show (1 : Int) ≤ 1 by decide) (show (2048 : Int) ≠ 0 by decide))))
 refine ⟨he, ?_⟩
 rw [e1]
 unfold cNext
 split
 ·rw [if_neg (fun h => absurd (show (3 : Int) = 9 from h.1) (by decide))]
  exact ⟨_, hoff (o || !false)⟩
 ·rw [if_neg (fun h => by cases h.1), if_pos (.inr rfl)]
  exact ⟨_, hoff true⟩
theorem in_other {o : Bool} {fa fp n : Int} (h : ¬ (fa = 2 ∧ fp = 80)) : cInE (eA iss irs o) (gR fa fp n 0) ≠ 0 ∧ cIn (eA iss irs o) (gR fa fp n 0) = eA iss irs o := by
 have he : cInE (eA iss irs o) (gR fa fp n 0) ≠ 0 := by
  unfold cInE
  split
  ·rename_i h2; exact h2
  ·rw [if_pos (show ¬ ((gR fa fp n 0).fa = (eA iss irs o).ra ∧ (gR fa fp n 0).fp = (eA iss irs o).rp ∧ (gR fa fp n 0).ta = (eA iss irs o).la ∧ (gR fa fp n 0).tp = (eA iss irs o).lp) from fun h2 => h ⟨h2.1, h2.2.1⟩)]; decide
 exact ⟨he, fol_in he⟩
theorem in_same {o : Bool} {n : Int} (hn : n = u32 (irs + 1)) : cInE (eA iss irs o) (gR 2 80 n 0) = 0 := (in_rst (n := n) (win := 0) (by decide)).1
theorem ci_eA {o : Bool} {t : Int} {c : KCn} {g : KSeg} (h : CI c t) (ht : t ≤ 140737488355320) (hg : SegOk g) (e : cIn c g = eA iss irs o) : CI (eA iss irs o) (t + 1) := by
 have h2 := (h.in_ ht g hg).1
 rw [e] at h2
 exact h2
theorem ok_gR {fa fp n win : Int} (h1 : 0 ≤ fa ∧ fa ≤ 4294967295) (h2 : -9223372036854775808 ≤ fp ∧ fp ≤ 9223372036854775807) (hn : 0 ≤ n ∧ n ≤ 4294967295) (hw : 0 ≤ win ∧ win ≤ 65535) : SegOk (gR fa fp n win) := by
 refine ⟨h1, h2, ⟨?_, ?_⟩, ⟨?_, ?_⟩, hn, ⟨?_, ?_⟩, ⟨?_, ?_⟩, ⟨?_, ?_⟩, Nat.zero_le _⟩ <;> simp only [gR] <;> omega
theorem ok_gY {n win : Int} (hn : 0 ≤ n ∧ n ≤ 4294967295) (hw : 0 ≤ win ∧ win ≤ 65535) : SegOk (gY n win) := by
 refine ⟨⟨?_, ?_⟩, ⟨?_, ?_⟩, ⟨?_, ?_⟩, ⟨?_, ?_⟩, hn, ⟨?_, ?_⟩, ⟨?_, ?_⟩, ⟨?_, ?_⟩, Nat.zero_le _⟩ <;> simp only [gY] <;> omega
end
end Go.Proofs.Ytfpifahkpkjfgaa
