/- ports.Table: Find. -/
import Derived.Test.YtppjmhkecogbcaaBndI
namespace Go.Proofs.Ytppjmhkecogbcaa
open Go.RowKit Go.Lib
set_option linter.unusedVariables false
set_option linter.unusedSimpArgs false

/-- an array of structs of its own, as a row -/
theorem MemX.rows_ {P : Program} {E : Nat → Prop} {w0 w : World} {l : List Res} {α : Type} {f : α → List Value} {size : Nat} {g : Nat} {t : TypeId} (h : MemX E w0 w l) (k : Nat) (rs : List α) (hk : l[k]? = some (atR g t (rs.flatMap f))) (hf : ∀ r, (f r).length = size) (hn : rs.length ≤ maxLen) : MemX E w0 w (l.set k (rowR size f (.slice (some ⟨g, 0, none⟩) rs.length rs.length) rs)) := by
  have hA := h.at_ k hk
  refine h.upd k hk (World.grownBy.refl _ _) (winR_stab _ _ _ _ _) ?_ (fun j hj => ?_)
  · refine ⟨flat_len hf rs, .inr ⟨g, 0, rs.length, rfl, Nat.zero_le _, hA.lt, Nat.le_refl _, hn, fun j u hj => ?_, fun j hj => by simp at hj, fun j hj => hA.free _⟩⟩
    rw [Nat.zero_add, hA.cell]; exact hj
  · have hj' : some g = some j := hj
    exact ⟨.inl hj', by have := hA.lt; cases hj'; exact this⟩
def cInt (o : Int) : List Value := [.int .i64 o]
def pCand (lc rm : KEnd) : List KBound := [⟨0, lc.a, lc.p, rm.a, rm.p, false, 0⟩, ⟨0, lc.a, lc.p, 0, 0, false, 0⟩, ⟨0, 0, lc.p, 0, 0, false, 0⟩]
theorem pEnd_ext {a b : KEnd} (h1 : a.a = b.a) (h2 : a.p = b.p) : a = b := by cases a; cases b; simp only at h1 h2; subst h1 h2; rfl
instance decEndP : DecidableEq KEnd := fun a b => decidable_of_iff (a.a = b.a ∧ a.p = b.p) ⟨fun h => pEnd_ext h.1 h.2, fun h => by rw [h]; exact ⟨rfl, rfl⟩⟩
theorem eqx_End (p q : KEnd) (x : Bool) (h : decide (p = q) = x) (W : World) : (Op.equalIn 10000 37 (.agg (cEnd p).toArray) (.agg (cEnd q).toArray)).run Try.prog W = .ok x W := by
  cases x
  · exact eqF_End p q (by simpa using h) W
  · have e : p = q := by simpa using h
    subst e
    exact eqT_End p W
abbrev cL (c : KBound) : KEnd := ⟨c.la, c.lp⟩
abbrev cR (c : KBound) : KEnd := ⟨c.ra, c.rp⟩
def pBc (l : List KBound) (pr : Int) (c : KBound) : List Int := pBest l pr (cL c) (cR c)
theorem pSel_c (pr : Int) (c b : KBound) : pSel pr (cL c) (cR c) b = (decide (b.pr = pr) && (decide (cL b = cL c) && decide (cR b = cR c))) := by
  unfold pSel
  congr 2
  · exact decide_eq_decide.2 ⟨fun h => pEnd_ext h.1 h.2, fun (h : (_ : KEnd) = _) => ⟨congrArg KEnd.a h, congrArg KEnd.p h⟩⟩
  · exact decide_eq_decide.2 ⟨fun h => pEnd_ext h.1 h.2, fun (h : (_ : KEnd) = _) => ⟨congrArg KEnd.a h, congrArg KEnd.p h⟩⟩
theorem find_hit {l : List KBound} {pr : Int} {lc rm : KEnd} {n k : Nat} {c : KBound} (hc : (pCand lc rm)[k]? = some c) (hp : ∀ j d, j < k → (pCand lc rm)[j]? = some d → pBc l pr d = []) (hn : pBc l pr c ≠ []) : pFind l pr lc rm n = (pAt (pBc l pr c) n, true) := by
  have e0 : (pCand lc rm)[0]? = some ⟨0, lc.a, lc.p, rm.a, rm.p, false, 0⟩ := rfl
  have e1 : (pCand lc rm)[1]? = some ⟨0, lc.a, lc.p, 0, 0, false, 0⟩ := rfl
  have e2 : (pCand lc rm)[2]? = some ⟨0, 0, lc.p, 0, 0, false, 0⟩ := rfl
  match k, hc, hp with
  | 0, hc, hp =>
    have := Option.some.inj (e0.symm.trans hc)
    subst this
    exact if_pos hn
  | 1, hc, hp =>
    have := Option.some.inj (e1.symm.trans hc)
    subst this
    have h0 : pBest l pr lc rm = [] := hp 0 _ (by omega) e0
    unfold pFind
    rw [if_neg (by simp [h0])]
    exact if_pos hn
  | 2, hc, hp =>
    have := Option.some.inj (e2.symm.trans hc)
    subst this
    have h0 : pBest l pr lc rm = [] := hp 0 _ (by omega) e0
    have h1 : pBest l pr lc ⟨0, 0⟩ = [] := hp 1 _ (by omega) e1
    unfold pFind
    rw [if_neg (by simp [h0]), if_neg (by simp [h1])]
    exact if_pos hn
  | k + 3, hc, hp => simp [pCand] at hc
theorem find_no {l : List KBound} {pr : Int} {lc rm : KEnd} {n : Nat} (hp : ∀ j d, j < 3 → (pCand lc rm)[j]? = some d → pBc l pr d = []) : pFind l pr lc rm n = (0, false) := by
  have h0 : pBest l pr lc rm = [] := hp 0 ⟨0, lc.a, lc.p, rm.a, rm.p, false, 0⟩ (by omega) rfl
  have h1 : pBest l pr lc ⟨0, 0⟩ = [] := hp 1 ⟨0, lc.a, lc.p, 0, 0, false, 0⟩ (by omega) rfl
  have h2 : pBest l pr ⟨0, lc.p⟩ ⟨0, 0⟩ = [] := hp 2 ⟨0, 0, lc.p, 0, 0, false, 0⟩ (by omega) rfl
  unfold pFind
  rw [if_neg (by simp [h0]), if_neg (by simp [h1]), if_neg (by simp [h2])]
theorem best_step {l : List KBound} (pr : Int) (lc rm : KEnd) (j : Nat) (b : KBound) (h : l[j]? = some b) : pBest (l.take (j + 1)) pr lc rm = pBest (l.take j) pr lc rm ++ if pSel pr lc rm b = true then [b.ow] else [] := by
  unfold pBest
  rw [List.take_add_one, h, List.filter_append, List.map_append]
  congr 1
  cases hs : pSel pr lc rm b <;> simp [hs]
theorem best_len (l : List KBound) (pr : Int) (lc rm : KEnd) (j : Nat) : (pBest (l.take j) pr lc rm).length ≤ j := by
  unfold pBest
  rw [List.length_map]
  exact Nat.le_trans (List.length_filter_le _ _) (by rw [List.length_take]; omega)
theorem one_cInt (o : Int) : ∀ u ∈ cInt o, u.oneCell' = true := by
  intro u hu
  simp only [cInt, List.mem_cons, List.not_mem_nil, or_false] at hu
  rcases hu with rfl; rfl
theorem elem_int : (Try.prog.info? 3).map (fun i => (i.size, i.bytes, i.zero.map (·.cells.size))) = some (1, 8, some 1) := by kernel_rfl
theorem zv_int : ∀ W : World, (zeroValue 3).run Try.prog W = .ok (.int .i64 0) W := fun _ => by kernel_rfl
theorem sz_int : (Try.prog.info? 3).map (·.size) = some 1 := by kernel_rfl
end Go.Proofs.Ytppjmhkecogbcaa
