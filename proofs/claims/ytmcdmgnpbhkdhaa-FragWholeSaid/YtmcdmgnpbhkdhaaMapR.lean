/- A loop that ranges over a map of the call's own, and only reads it. -/
import Derived.Test.YtmcdmgnpbhkdhaaMap
import Derived.Maps.RangeWalk
namespace Go.Proofs.Ytmcdmgnpbhkdhaa
open Go Go.RowKit
open Go.Maps (Keyed)
set_option linter.unusedVariables false
set_option linter.unusedSectionVars false
set_option linter.unusedSimpArgs false

/-- the map's block, entry by entry -/
def mapE (g : Nat) (es : Array MapEntry) (clock : Nat) : Res := ⟨some g, fun W => W.heap[g]? = some (.map es clock)⟩
/-- an iterator over the map g -/
def itR (r g clock : Nat) (seen : Array Nat) : Res := ⟨some r, fun W => W.heap[r]? = some (.mapIter (some g) clock seen clock)⟩
theorem mapE_stab (g : Nat) (es : Array MapEntry) (clock : Nat) : (mapE g es clock).Stab := fun w w' h _ hb => (hb g rfl).trans h
theorem itR_stab (r g clock : Nat) (seen : Array Nat) : (itR r g clock seen).Stab := fun w w' h _ hb => (hb r rfl).trans h
/-- these entries, as a list of pairs -/
structure EsIs {κ ν : Type} (P : Program) (kt : TypeId) (fk : κ → Value) (fv : ν → Value) (m : List (κ × ν)) (es : Array MapEntry) (clock : Nat) : Prop where
  e : es.toList.map (fun e => (e.key, e.val)) = m.map (fun p => (fk p.1, fv p.2))
  st : MapKept.Stamped es clock
  ks : ∀ p ∈ m, KeyOk P kt fk p.1
theorem EsIs.mem {κ ν : Type} {P : Program} {kt : TypeId} {fk : κ → Value} {fv : ν → Value} {m : List (κ × ν)} {es : Array MapEntry} {clock : Nat} (h : EsIs P kt fk fv m es clock) {e : MapEntry} (he : e ∈ es.toList) : ∃ p ∈ m, e.key = fk p.1 ∧ e.val = fv p.2 := by
  have : (e.key, e.val) ∈ m.map (fun p => (fk p.1, fv p.2)) := by rw [← h.e]; exact List.mem_map.2 ⟨e, he, rfl⟩
  obtain ⟨p, hp, e1⟩ := List.mem_map.1 this
  injection e1 with e1 e2
  exact ⟨p, hp, e1.symm, e2.symm⟩
section
variable {E : Nat → Prop} {P : Program} {ops : Array Oper} {rest : List Oper} {op : Oper} {a : Act} {w0 w : World} {Q : Exit → Act → World → Prop} {l : List Res} {t kt et : TypeId} {κ ν : Type} [DecidableEq κ] {fk : κ → Value} {fv : ν → Value} {g : Nat} {m : List (κ × ν)}
theorem MemX.mapOpen (h : MemX E w0 w l) (i : Nat) (hi : l[i]? = some (mapR P kt fk fv g m)) : ∃ es clock, EsIs P kt fk fv m es clock ∧ MemX E w0 w (l.set i (mapE g es clock)) := by
  have hA := h.map_ i hi
  have hks := hA.ks
  obtain ⟨es, clock, h1, h2, h3⟩ := hA.ok
  refine ⟨es, clock, ⟨h2, h3, hks⟩, h.upd i hi (World.grownBy.refl _ _) (mapE_stab _ _ _) h1 (fun j hj => ⟨.inl hj, ?_⟩)⟩
  have : g = j := Option.some.inj hj
  subst this
  exact (Array.getElem?_eq_some_iff.1 h1).1
theorem MemX.mapShut (h : MemX E w0 w l) (i : Nat) {es : Array MapEntry} {clock : Nat} (hi : l[i]? = some (mapE g es clock)) (he : EsIs P kt fk fv m es clock) : MemX E w0 w (l.set i (mapR P kt fk fv g m)) := by
  have h1 : w.heap[g]? = some (.map es clock) := h.get i hi
  refine h.upd i hi (World.grownBy.refl _ _) mapR_stab ⟨⟨es, clock, h1, he.e, he.st⟩, he.ks⟩ (fun j hj => ⟨.inl hj, ?_⟩)
  have : g = j := Option.some.inj hj
  subst this
  exact (Array.getElem?_eq_some_iff.1 h1).1
theorem wpList_range_m (hgd : op.guard = none) (x : Operand) (ho : op.op = .range t x) (ht : P.underlying t = some (.map kt et)) (i : Nat) (es : Array MapEntry) (clock : Nat) (hM : MemX E w0 w l) (hi : l[i]? = some (mapE g es clock)) (hx : a.eval x = .map (some g))
    (h : ∀ r W, MemX E w0 W (l ++ [itR r g clock #[]]) → wpList P ops Q rest (a.put op.dst (.pointer (some ⟨r, 0, none⟩))) W) : wpList P ops Q (op :: rest) a w :=
  wpList_plain hgd fun K hK => by
    have hr := run_range_map (P := P) w t kt et g es clock ht (hM.get i hi)
    unfold Oper.wp execOp
    simp only [ho, hx, hr, Sem.run_bind, Sem.run_pure, Result.andThen_ok]
    refine hK _ _ (h _ _ (hM.push (below_ca (Below.refl _ _) _) (itR_stab _ _ _ _) ((MapKept.heap_alloc w _).1) (fun j hj => ?_)))
    have : w.heap.size = j := Option.some.inj hj
    subst this; exact ⟨Nat.le_refl _, by simp⟩
theorem wpList_next_m (hgd : op.guard = none) (x : Operand) (ho : op.op = .next x false) (i j : Nat) (r : Nat) (es : Array MapEntry) (clock : Nat) (seen : Array Nat) (hM : MemX E w0 w l) (hi : l[i]? = some (mapE g es clock)) (hj : l[j]? = some (itR r g clock seen)) (hx : a.eval x = .pointer (some ⟨r, 0, none⟩)) (hst : MapKept.Stamped es clock)
    (hDone : (leftOf es seen).size = 0 → wpList P ops Q rest (a.put op.dst (.tuple #[.bool false])) w)
    (hMore : ∀ e ∈ (leftOf es seen).toList, ∀ W, MemX E w0 W (l.set j (itR r g clock (seen.push e.born))) → (leftOf es (seen.push e.born)).size < (leftOf es seen).size → wpList P ops Q rest (a.put op.dst (.tuple #[.bool true, e.key, e.val])) W) : wpList P ops Q (op :: rest) a w :=
  wpList_plain hgd fun K hK => by
    have hs := (MapKept.stamped_iff es clock).1 hst
    have hr : w.heap[r]? = some (.mapIter (some g) clock seen clock) := hM.get j hj
    have hb : w.heap[g]? = some (.map es clock) := hM.get i hi
    unfold Oper.wp execOp
    rcases run_next_at (P := P) w op.type r g clock clock seen es clock hr hb hs.1 (Nat.le_refl _) with ⟨h0, hrun⟩ | ⟨e, he, w1, hal, hrun⟩
    · simp only [ho, hx, hrun, Sem.run_bind, Sem.run_pure, Result.andThen_ok]
      exact hK _ _ (hDone h0)
    · simp only [ho, hx, hrun, Sem.run_bind, Sem.run_pure, Result.andThen_ok]
      refine hK _ _ (hMore e he _ (hM.upd j hj ?_ (itR_stab _ _ _ _) ?_ (fun q hq => ⟨.inl hq, ?_⟩)) (left_shrinks es seen e he))
      · rcases hal with rfl | rfl <;> exact ⟨rfl, rfl, rfl, by simp [ChangeMaps.setBlock], fun k hk hne => by
          have : r ≠ k := fun e => hne (by rw [e]; rfl)
          first | (simp [ChangeMaps.setBlock, Array.getElem?_setIfInBounds, this]; done) | (simp [ChangeMaps.setBlock, Array.getElem?_setIfInBounds, this]; rfl)⟩
      · have hlt : r < w1.heap.size := by rcases hal with rfl | rfl <;> exact (Array.getElem?_eq_some_iff.1 hr).1
        exact setBlock_new w1 r _ hlt
      · have : r = q := Option.some.inj hq
        subst this
        have hlt : r < w1.heap.size := by rcases hal with rfl | rfl <;> exact (Array.getElem?_eq_some_iff.1 hr).1
        simpa [ChangeMaps.setBlock] using hlt
theorem left_mem {es : Array MapEntry} {seen : Array Nat} {e : MapEntry} (h : e ∈ (leftOf es seen).toList) : e ∈ es.toList := (mem_left h).1
theorem wpList_entry_m (hgd : op.guard = none) (x : Operand) (ho : op.op = .entry x) (i j : Nat) (r : Nat) (es : Array MapEntry) (clock : Nat) (seen : Array Nat) (e : MapEntry) (hM : MemX E w0 w l) (hi : l[i]? = some (mapE g es clock)) (hj : l[j]? = some (itR r g clock (seen.push e.born))) (hx : a.eval x = .pointer (some ⟨r, 0, none⟩)) (hst : MapKept.Stamped es clock) (he : e ∈ es.toList)
    (h : wpList P ops Q rest (a.put op.dst (.tuple #[e.key, e.val])) w) : wpList P ops Q (op :: rest) a w :=
  wpList_plain hgd fun K hK => by
    have hs := (MapKept.stamped_iff es clock).1 hst
    have hrun := run_entry_at (P := P) w r g clock seen es clock e (hM.get j hj) (hM.get i hi) he hs.2.1
    unfold Oper.wp execOp
    simp only [ho, hx, hrun, Sem.run_bind, Sem.run_pure, Result.andThen_ok]
    exact hK _ _ h
end
end Go.Proofs.Ytmcdmgnpbhkdhaa
