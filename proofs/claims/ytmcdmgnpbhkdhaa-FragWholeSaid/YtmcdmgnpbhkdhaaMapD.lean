/- A loop that ranges over a map of the call's own, and strikes what it meets. -/
import Derived.Test.YtmcdmgnpbhkdhaaMapR
namespace Go.Proofs.Ytmcdmgnpbhkdhaa
open Go Go.RowKit
open Go.Maps (Keyed)
set_option linter.unusedVariables false
set_option linter.unusedSectionVars false
set_option linter.unusedSimpArgs false

section
variable {P : Program} {W : World} {t kt et : TypeId} {κ ν : Type} [DecidableEq κ] {fk : κ → Value} {fv : ν → Value} {g : Nat} {m : List (κ × ν)}
theorem erase_mem {es : List MapEntry} (hn : (es.map (·.key)).Nodup) {j : Nat} {e : MapEntry} (hj : es[j]? = some e) (x : MapEntry) : x ∈ es.eraseIdx j ↔ x ∈ es ∧ x ≠ e := by
  obtain ⟨hl, hee⟩ := List.getElem?_eq_some_iff.1 hj
  have h3 : es.take j ++ e :: es.drop (j + 1) = es := by rw [← hee, ← List.drop_eq_getElem_cons hl, List.take_append_drop]
  have hp : es.Perm (e :: es.eraseIdx j) := by
    rw [List.eraseIdx_eq_take_drop_succ]
    conv => lhs; rw [← h3]
    exact List.perm_middle
  have hn2 : ((e :: es.eraseIdx j).map (·.key)).Nodup := (hp.map _).nodup_iff.1 hn
  rw [List.map_cons, List.nodup_cons] at hn2
  constructor
  · intro hx
    refine ⟨List.mem_of_mem_eraseIdx hx, fun h => hn2.1 ?_⟩
    rw [← h]
    exact List.mem_map.2 ⟨x, hx, rfl⟩
  · rintro ⟨hx, hne⟩
    rcases List.mem_cons.1 (hp.mem_iff.1 hx) with h | h
    · exact absurd h hne
    · exact h
theorem run_delete_e (T : MapTy P t kt et fk fv) {es : Array MapEntry} {clock : Nat} (h1 : W.heap[g]? = some (.map es clock)) (he : EsIs P kt fk fv m es clock) {k : κ} (hk : KeyOk P kt fk k) {e : MapEntry} (hmem : e ∈ es.toList) (hek : e.key = fk k) (ty : TypeId) :
    ∃ W' es', (Builtin.delete_ #[t, kt] ty #[.map (some g), fk k]).run P W = .ok (.tuple #[]) W' ∧ W'.heap[g]? = some (.map es' clock) ∧ EsIs P kt fk fv (mDel m k) es' clock ∧ (∀ x, x ∈ es'.toList ↔ x ∈ es.toList ∧ x ≠ e) ∧ W.grownBy W' (some g) := by
  have h : MapAt P kt fk fv W g m := ⟨⟨es, clock, h1, he.e, he.st⟩, he.ks⟩
  have hlt := h.lt
  obtain ⟨l, hl⟩ := hk
  have hks : ∀ p ∈ mDel m k, KeyOk P kt fk p.1 := fun p hp => h.ks p (List.mem_filter.1 hp).1
  have hkn : (es.toList.map (·.key)).Nodup := he.st.2.2
  rcases map_find T h h1 ⟨l, hl⟩ he.e with ⟨h4, h6, h5⟩ | ⟨j, e', v0, h4, h6, h7, h5⟩
  · exfalso
    obtain ⟨p, hp, e1, _⟩ := he.mem hmem
    rw [hek] at e1
    have := T.inj e1
    exact h5 p hp this.symm
  · have hjl : j < es.size := by have := (List.getElem?_eq_some_iff.1 h6).1; simpa using this
    have hel : (es.eraseIdxIfInBounds j).toList = es.toList.eraseIdx j := by simp [Array.eraseIdxIfInBounds, hjl]
    have hee : e' = e := by
      obtain ⟨i, hi⟩ := List.getElem?_of_mem hmem
      have hil := (List.getElem?_eq_some_iff.1 hi).1
      have e1 : (es.toList.map (·.key))[i]? = some (fk k) := by rw [List.getElem?_map, hi]; simp [hek]
      have e2 : (es.toList.map (·.key))[j]? = some (fk k) := by rw [List.getElem?_map, h6]; simp [h7]
      have hij : i = j := (List.getElem?_inj (by simpa using hil) hkn).1 (e1.trans e2.symm)
      rw [hij, h6] at hi
      exact Option.some.inj hi
    refine ⟨ChangeMaps.setBlock W g (.map (es.eraseIdxIfInBounds j) clock), _, ?_, setBlock_new W g _ hlt, ⟨?_, MapKept.stamped_erase he.st j, hks⟩, fun x => ?_, setBlock_grown _ _ _⟩
    · simp [Builtin.delete_, run_underlying T.ht, MapKept.run_getObj_map h1, T.K.check W _ hl, h4, MapKept.run_setObj_map _ h1, Result.andThen, ChangeMaps.setBlock]
    · rw [mDel_erase h.mok h5, hel, ChangeMaps.map_eraseIdx, ChangeMaps.map_eraseIdx, he.e]
    · rw [hel, erase_mem hkn h6 x, hee]
end
section
variable {E : Nat → Prop} {P : Program} {ops : Array Oper} {rest : List Oper} {op : Oper} {a : Act} {w0 w : World} {Q : Exit → Act → World → Prop} {l : List Res} {t kt et : TypeId} {κ ν : Type} [DecidableEq κ] {fk : κ → Value} {fv : ν → Value} {g : Nat} {m : List (κ × ν)}
theorem wpList_delete_e (hgd : op.guard = none) (x y : Operand) (ho : op.op = .call { callee := .builtin .delete, args := #[x, y], argTypes := #[t, kt] }) (T : MapTy P t kt et fk fv) (i : Nat) {es : Array MapEntry} {clock : Nat} (hM : MemX E w0 w l) (hi : l[i]? = some (mapE g es clock)) (he : EsIs P kt fk fv m es clock) (hx : a.eval x = .map (some g)) (k : κ) (hy : a.eval y = fk k) (hk : KeyOk P kt fk k) {e : MapEntry} (hmem : e ∈ es.toList) (hek : e.key = fk k)
    (h : ∀ W es', MemX E w0 W (l.set i (mapE g es' clock)) → EsIs P kt fk fv (mDel m k) es' clock → (∀ x, x ∈ es'.toList ↔ x ∈ es.toList ∧ x ≠ e) → wpList P ops Q rest (a.put op.dst (.tuple #[])) W) : wpList P ops Q (op :: rest) a w :=
  wpList_plain hgd fun K hK => by
    obtain ⟨W', es', hr, h1, h2, h3, h4⟩ := run_delete_e (P := P) (W := w) T (hM.get i hi) he hk hmem hek op.type
    unfold Oper.wp execOp
    simp only [ho, resolve, invoke, builtin, Sem.run_bind, Sem.run_pure, Result.andThen_ok, List.map_toArray, List.map_cons, List.map_nil, hx, hy, hr]
    refine hK _ _ (h _ es' (hM.upd i hi h4 (mapE_stab _ _ _) h1 (fun j hj => ?_)) h2 h3)
    have : g = j := Option.some.inj hj
    subst this
    exact ⟨.inl rfl, (Array.getElem?_eq_some_iff.1 h1).1⟩
end
end Go.Proofs.Ytmcdmgnpbhkdhaa
