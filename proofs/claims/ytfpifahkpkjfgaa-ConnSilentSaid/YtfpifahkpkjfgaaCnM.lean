/- conn: late, Tick (plain); what outq and cong are handed. -/
import Derived.Test.YtfpifahkpkjfgaaCnC
namespace Go.Proofs.Ytfpifahkpkjfgaa
open Go.RowKit Go.Lib
set_option linter.unusedVariables false
set_option linter.unusedSimpArgs false

theorem cq_put {E : Nat → Prop} {w W W' : World} {g : Nat} {q q' : OQ} {v v' : Value} {m : List Res} (hM : MemX E w W (oqA g q v :: oqB q v :: m)) (hN : OPre W W' g v q' v') : MemX E w W' (oqA g q' v' :: oqB q' v' :: m) :=
  hM.splice2 0 1 (by decide) rfl rfl (fun k hk => hk.elim (fun e => .inl (by rw [e]; rfl)) (fun e => .inr e)) hN
theorem cq_hand {E : Nat → Prop} {w W : World} {g : Nat} {q : OQ} {v : Value} {m : List Res} (hM : MemX E w W (oqA g q v :: oqB q v :: m)) : OPre W W g v q v := by
  have hA := hM.p (oqA g q v) (by simp)
  have hB := hM.p (oqB q v) (by simp)
  have hmem : ∀ r ∈ [oqA g q v, oqB q v], r ∈ oqA g q v :: oqB q v :: m := fun r hr => by
    rcases List.mem_cons.1 hr with rfl | hr
    · simp
    · have := List.mem_singleton.1 hr
      subst this; simp
  refine ⟨Fr.refl _ _, fun r hr => hM.p r (hmem r hr), fun r hr => hM.s r (hmem r hr), ?_, ?_⟩
  · intro r hr k hk
    rcases List.mem_cons.1 hr with rfl | hr
    · exact ⟨.inr (.inl (Option.some.inj (show some g = some k from hk)).symm), (hM.lo _ (by simp) k hk).2⟩
    · have := List.mem_singleton.1 hr
      subst this
      exact ⟨.inr (.inr hk), (hM.lo _ (by simp) k hk).2⟩
  · intro i j hij a b hi hj
    refine hM.ne i j hij a b ?_ ?_
    · match i, hi with
      | 0, hi => exact hi
      | 1, hi => exact hi
      | i + 2, hi => simp at hi
    · match j, hj with
      | 0, hj => exact hj
      | 1, hj => exact hj
      | j + 2, hj => simp at hj
theorem Lost_any (g : Nat) (m s l f : Int) (w : World) (hT : WindowAt w g m s l) (ho : WindowOk m s l) (hf : -9223372036854775808 ≤ f) (hf' : f ≤ 9223372036854775807) :
    Calls Try.prog 91 #[.pointer (some ⟨g, 0, none⟩), .int .i64 f] w fun e w' => e = .returned (.tuple #[]) ∧ WindowAt w' g m (halfZ m f) (halfZ m f) ∧ w.grownBy w' (some g) := by
  go_enter Try.func91, Try.ntmps91
  go_wp2_with fail
  refine (halve_any _ _ _ _ _ _ hT ho hf hf').mono ?_
  rintro e w1 ⟨rfl, hT1, hO1⟩
  have c1 : w1.cell? ⟨g, 1, none⟩ = some (.int .i64 s) := hT1.cell 1
  have c2 : w1.cell? ⟨g, 2, none⟩ = some (.int .i64 (halfZ m f)) := hT1.cell 2
  have f1 : w1.frozen? ⟨g, 1, none⟩ = false := hT1.free 1
  go_wp2_with fail
  go_end0
  exact ⟨rfl, hT1.set_ 1 _, only_set hO1 (.inl rfl) _⟩
theorem Silent_any (g : Nat) (m s l f : Int) (w : World) (hT : WindowAt w g m s l) (ho : WindowOk m s l) (hf : -9223372036854775808 ≤ f) (hf' : f ≤ 9223372036854775807) :
    Calls Try.prog 70 #[.pointer (some ⟨g, 0, none⟩), .int .i64 f] w fun e w' => e = .returned (.tuple #[]) ∧ WindowAt w' g m m (halfZ m f) ∧ w.grownBy w' (some g) := by
  go_enter Try.func70, Try.ntmps70
  go_wp2_with fail
  refine (halve_any _ _ _ _ _ _ hT ho hf hf').mono ?_
  rintro e w1 ⟨rfl, hT1, hO1⟩
  have c0 : w1.cell? ⟨g, 0, none⟩ = some (.int .i64 m) := hT1.cell 0
  have c1 : w1.cell? ⟨g, 1, none⟩ = some (.int .i64 s) := hT1.cell 1
  have f1 : w1.frozen? ⟨g, 1, none⟩ = false := hT1.free 1
  go_wp2_with fail
  go_end0
  exact ⟨rfl, hT1.set_ 1 _, only_set hO1 (.inl rfl) _⟩


/-- the clock went off -/
def cLate (c : KCn) : KCn :=
  if c.gone = 8 then cClosed c 13 else
    if c.o.cur - c.o.una = 0 then { c with gone := c.gone + 1, tm := { c.tm with d := if c.tm.d < 6 then c.tm.d + 1 else 6 }, clock := c.now, probe := true } else
      { c with gone := c.gone + 1, tm := { c.tm with d := if c.tm.d < 6 then c.tm.d + 1 else 6 }, clock := c.now, o := { c.o with cur := c.o.una }, meas := 0, h := c.h.map fun x => (x.1, ⟨x.2.m, x.2.m, halfZ x.2.m (c.o.cur - c.o.una)⟩) }
def cTick (c : KCn) (n : Int) : KCn :=
  let c1 := { c with now := c.now + n }
  cSettle (if c1.st = 9 ∧ c1.ends ≤ c1.now then cClosed c1 0 else if 0 ≤ c1.clock ∧ valZ c1.tm.k c1.tm.m c1.tm.s c1.tm.d ≤ c1.now - c1.clock then cLate c1 else c1)
end Go.Proofs.Ytfpifahkpkjfgaa
