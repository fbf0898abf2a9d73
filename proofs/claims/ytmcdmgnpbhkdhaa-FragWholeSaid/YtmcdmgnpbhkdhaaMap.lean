/- Maps of the call's own, in Mem: their entries as a list of pairs, in the order in which they were made. -/
import Derived.Test.YtmcdmgnpbhkdhaaQMix
import Derived.Maps.Keyed
import Derived.Maps.Own
namespace Go.Proofs.Ytmcdmgnpbhkdhaa
open Go.RowKit
open Go.Maps (Keyed)
set_option linter.unusedVariables false
set_option linter.unusedSectionVars false
set_option linter.unusedSimpArgs false

section
variable {κ ν : Type} [DecidableEq κ]
def mGet (m : List (κ × ν)) (k : κ) : Option ν := (m.find? (fun p => decide (p.1 = k))).map (·.2)
def mHas (m : List (κ × ν)) (k : κ) : Bool := (mGet m k).isSome
def mPut (m : List (κ × ν)) (k : κ) (v : ν) : List (κ × ν) := if mHas m k = true then m.map (fun p => if p.1 = k then (k, v) else p) else m ++ [(k, v)]
def mDel (m : List (κ × ν)) (k : κ) : List (κ × ν) := m.filter (fun p => !decide (p.1 = k))
/-- no key twice -/
def mOk (m : List (κ × ν)) : Prop := m.Pairwise (fun p q => p.1 ≠ q.1)
theorem mGet_none {m : List (κ × ν)} {k : κ} (h : ∀ p ∈ m, p.1 ≠ k) : mGet m k = none := by
  unfold mGet
  rw [List.find?_eq_none.2 (fun p hp => by simpa using h p hp)]; rfl
theorem mGet_none_iff {m : List (κ × ν)} {k : κ} : mGet m k = none ↔ ∀ p ∈ m, p.1 ≠ k := by
  refine ⟨fun h p hp e => ?_, mGet_none⟩
  unfold mGet at h
  rw [Option.map_eq_none_iff, List.find?_eq_none] at h
  exact h p hp (by simpa using e)
theorem mGet_at {m : List (κ × ν)} (h : mOk m) {j : Nat} {p : κ × ν} (hp : m[j]? = some p) : mGet m p.1 = some p.2 := by
  induction m generalizing j with
  | nil => simp at hp
  | cons q m ih =>
    obtain ⟨h1, h2⟩ := List.pairwise_cons.1 h
    unfold mGet
    rw [List.find?_cons]
    cases j with
    | zero => simp at hp; subst hp; simp
    | succ j =>
      have hp' : m[j]? = some p := by simpa using hp
      have hne : q.1 ≠ p.1 := h1 p (List.mem_of_getElem? hp')
      rw [show decide (q.1 = p.1) = false by simpa using hne]
      exact ih h2 hp'
theorem mGet_some {m : List (κ × ν)} {k : κ} {v : ν} (h : mGet m k = some v) : ∃ j : Nat, m[j]? = some (k, v) := by
  unfold mGet at h
  rw [Option.map_eq_some_iff] at h
  obtain ⟨p, hp, rfl⟩ := h
  have h1 := List.mem_of_find?_eq_some hp
  have h2 := List.find?_some hp
  simp only [decide_eq_true_eq] at h2
  obtain ⟨j, hj⟩ := List.getElem?_of_mem h1
  exact ⟨j, by rw [hj, ← h2]⟩
theorem mHas_iff {m : List (κ × ν)} {k : κ} : mHas m k = true ↔ ∃ p ∈ m, p.1 = k := by
  unfold mHas
  rw [Option.isSome_iff_ne_none, ne_eq, mGet_none_iff]
  constructor
  · intro h
    exact Classical.byContradiction fun h2 => h fun p hp e => h2 ⟨p, hp, e⟩
  · rintro ⟨p, hp, e⟩ h; exact h p hp e
theorem mPut_set {m : List (κ × ν)} (h : mOk m) {j : Nat} {k : κ} {v0 v : ν} (hp : m[j]? = some (k, v0)) : mPut m k v = m.set j (k, v) := by
  have hh : mHas m k = true := mHas_iff.2 ⟨_, List.mem_of_getElem? hp, rfl⟩
  unfold mPut
  rw [if_pos hh]
  clear hh
  induction m generalizing j with
  | nil => simp at hp
  | cons q m ih =>
    obtain ⟨h1, h2⟩ := List.pairwise_cons.1 h
    cases j with
    | zero =>
      simp at hp; subst hp
      rw [List.map_cons, if_pos rfl, List.set_cons_zero]
      congr 1
      conv => rhs; rw [← List.map_id m]
      refine List.map_congr_left fun p hp => ?_
      rw [if_neg (fun e => h1 p hp e.symm)]; rfl
    | succ j =>
      have hp' : m[j]? = some (k, v0) := by simpa using hp
      rw [List.map_cons, if_neg (h1 _ (List.mem_of_getElem? hp')), List.set_cons_succ, ih h2 hp']
theorem mDel_erase {m : List (κ × ν)} (h : mOk m) {j : Nat} {k : κ} {v0 : ν} (hp : m[j]? = some (k, v0)) : mDel m k = m.eraseIdx j := by
  unfold mDel
  induction m generalizing j with
  | nil => simp at hp
  | cons q m ih =>
    obtain ⟨h1, h2⟩ := List.pairwise_cons.1 h
    cases j with
    | zero =>
      simp at hp; subst hp
      rw [List.filter_cons, if_neg (by simp), List.eraseIdx_cons_zero]
      exact List.filter_eq_self.2 fun p hp => by simpa using (h1 p hp).symm
    | succ j =>
      have hp' : m[j]? = some (k, v0) := by simpa using hp
      rw [List.filter_cons, if_pos (by simpa using h1 _ (List.mem_of_getElem? hp')), List.eraseIdx_cons_succ, ih h2 hp']
theorem mDel_none {m : List (κ × ν)} {k : κ} (h : ∀ p ∈ m, p.1 ≠ k) : mDel m k = m := List.filter_eq_self.2 fun p hp => by simpa using h p hp
theorem mOk_put {m : List (κ × ν)} (h : mOk m) (k : κ) (v : ν) : mOk (mPut m k v) := by
  by_cases hh : mHas m k = true
  · unfold mPut
    rw [if_pos hh]
    unfold mOk at *
    rw [List.pairwise_map]
    refine h.imp fun {a b} hab => ?_
    by_cases ha : a.1 = k
    · rw [if_pos ha]
      by_cases hb : b.1 = k
      · exact absurd (ha.trans hb.symm) hab
      · rw [if_neg hb]; exact fun e => hb e.symm
    · rw [if_neg ha]
      by_cases hb : b.1 = k
      · rw [if_pos hb]; exact ha
      · rw [if_neg hb]; exact hab
  · unfold mPut
    rw [if_neg hh]
    refine List.pairwise_append.2 ⟨h, List.pairwise_singleton _ _, fun a ha b hb e => hh (mHas_iff.2 ⟨a, ha, ?_⟩)⟩
    rw [List.mem_singleton] at hb
    rw [e, hb]
theorem mOk_del {m : List (κ × ν)} (h : mOk m) (k : κ) : mOk (mDel m k) := h.filter _
theorem mGet_put_same {m : List (κ × ν)} (h : mOk m) (k : κ) (v : ν) : mGet (mPut m k v) k = some v := by
  cases hg : mGet m k with
  | some v0 =>
    obtain ⟨j, hj⟩ := mGet_some hg
    have hl := (List.getElem?_eq_some_iff.1 hj).1
    have := mGet_at (mOk_put h k v) (j := j) (p := (k, v)) (by rw [mPut_set h hj, List.getElem?_set_self hl])
    exact this
  | none =>
    have hh : ¬ mHas m k = true := by unfold mHas; rw [hg]; simp
    have e : mPut m k v = m ++ [(k, v)] := by unfold mPut; rw [if_neg hh]
    have := mGet_at (mOk_put h k v) (j := m.length) (p := (k, v)) (by rw [e]; simp)
    exact this
theorem mGet_cons (q : κ × ν) (m : List (κ × ν)) (k : κ) : mGet (q :: m) k = if q.1 = k then some q.2 else mGet m k := by
  unfold mGet
  rw [List.find?_cons]
  by_cases h : q.1 = k
  · rw [if_pos h, show decide (q.1 = k) = true by simpa using h]; rfl
  · rw [if_neg h, show decide (q.1 = k) = false by simpa using h]
theorem mGet_put_other {m : List (κ × ν)} (k : κ) (v : ν) {k' : κ} (hne : k' ≠ k) : mGet (mPut m k v) k' = mGet m k' := by
  unfold mPut
  split
  · rename_i hh
    clear hh
    induction m with
    | nil => rfl
    | cons q m ih =>
      rw [List.map_cons, mGet_cons, mGet_cons, ih]
      by_cases hq : q.1 = k
      · rw [if_pos hq, if_neg (fun e => hne e.symm), if_neg (by rw [hq]; exact fun e => hne e.symm)]
      · rw [if_neg hq]
  · induction m with
    | nil => rw [List.nil_append, mGet_cons, if_neg (fun e => hne e.symm)]
    | cons q m ih =>
      rename_i hh
      rw [List.cons_append, mGet_cons, mGet_cons]
      split
      · rfl
      · refine ih (fun h => hh ?_)
        obtain ⟨p, hp, e⟩ := mHas_iff.1 h
        exact mHas_iff.2 ⟨p, List.mem_cons_of_mem _ hp, e⟩
theorem mGet_del_same (m : List (κ × ν)) (k : κ) : mGet (mDel m k) k = none := mGet_none fun p hp => by simpa using (List.mem_filter.1 hp).2
theorem mGet_del_other (m : List (κ × ν)) (k : κ) {k' : κ} (hne : k' ≠ k) : mGet (mDel m k) k' = mGet m k' := by
  unfold mDel
  induction m with
  | nil => rfl
  | cons q m ih =>
    rw [List.filter_cons, mGet_cons]
    by_cases hq : q.1 = k
    · rw [if_neg (by simp [hq]), ih, if_neg (by rw [hq]; exact fun e => hne e.symm)]
    · rw [if_pos (by simp [hq]), mGet_cons, ih]
theorem mPut_len {m : List (κ × ν)} (k : κ) (v : ν) : (mPut m k v).length = if mHas m k = true then m.length else m.length + 1 := by
  unfold mPut; split <;> simp
theorem mDel_len {m : List (κ × ν)} (h : mOk m) (k : κ) : (mDel m k).length = if mHas m k = true then m.length - 1 else m.length := by
  split
  · rename_i hh
    obtain ⟨v, hv⟩ := Option.isSome_iff_exists.1 hh
    obtain ⟨j, hj⟩ := mGet_some hv
    rw [mDel_erase h hj, List.length_eraseIdx, if_pos (List.getElem?_eq_some_iff.1 hj).1]
  · rename_i hh
    rw [mDel_none]
    intro p hp e
    exact hh (mHas_iff.2 ⟨p, hp, e⟩)
end
/-- how keys and elements lie in a map of this type -/
structure MapTy (P : Program) (t kt et : TypeId) {κ ν : Type} (fk : κ → Value) (fv : ν → Value) : Prop where
  K : Keyed P kt
  ht : P.underlying t = some (.map kt et)
  inj : ∀ {a b : κ}, fk a = fk b → a = b
/-- a key that Go can look for -/
def KeyOk (P : Program) (kt : TypeId) {κ : Type} (fk : κ → Value) (k : κ) : Prop := ∃ l, keyOf P kt (fk k) = some l
structure MapAt (P : Program) (kt : TypeId) {κ ν : Type} (fk : κ → Value) (fv : ν → Value) (W : World) (g : Nat) (m : List (κ × ν)) : Prop where
  ok : ∃ es clock, W.heap[g]? = some (.map es clock) ∧ es.toList.map (fun e => (e.key, e.val)) = m.map (fun p => (fk p.1, fv p.2)) ∧ MapKept.Stamped es clock
  ks : ∀ p ∈ m, KeyOk P kt fk p.1
def mapR (P : Program) (kt : TypeId) {κ ν : Type} (fk : κ → Value) (fv : ν → Value) (g : Nat) (m : List (κ × ν)) : Res := ⟨some g, fun W => MapAt P kt fk fv W g m⟩
section
variable {P : Program} {t kt et : TypeId} {κ ν : Type} [DecidableEq κ] {fk : κ → Value} {fv : ν → Value} {W : World} {g : Nat} {m : List (κ × ν)}
theorem mapR_stab : (mapR P kt fk fv g m).Stab := fun w w' h _ hb => by
  obtain ⟨es, clock, h1, h2, h3⟩ := h.ok
  exact ⟨⟨es, clock, (hb g rfl).trans h1, h2, h3⟩, h.ks⟩
theorem MapAt.lt (h : MapAt P kt fk fv W g m) : g < W.heap.size := by
  obtain ⟨es, clock, h1, _⟩ := h.ok
  exact (Array.getElem?_eq_some_iff.1 h1).1
theorem MapAt.mok (h : MapAt P kt fk fv W g m) : mOk m := by
  obtain ⟨es, clock, h1, h2, h3⟩ := h.ok
  have h4 := ((MapKept.stamped_iff es clock).1 h3).2.2
  have h5 : (es.toList.map (fun e => (e.key, e.val))).Pairwise (fun p q => p.1 ≠ q.1) := by rw [List.pairwise_map]; exact h4
  rw [h2, List.pairwise_map] at h5
  exact h5.imp fun {a b} hab e => hab (by rw [e])
theorem map_new (w : World) : MapAt P kt fk fv (w.alloc (.map #[] 0)) w.heap.size ([] : List (κ × ν)) :=
  ⟨⟨#[], 0, (MapKept.heap_alloc w _).1, rfl, MapKept.stamped_empty 0⟩, by simp⟩
/-- which entry -/
theorem map_find (T : MapTy P t kt et fk fv) (h : MapAt P kt fk fv W g m) {es : Array MapEntry} {clock : Nat} (hb : W.heap[g]? = some (.map es clock)) {k : κ} (hk : KeyOk P kt fk k)
    (h2 : es.toList.map (fun e => (e.key, e.val)) = m.map (fun p => (fk p.1, fv p.2))) :
    ((Instr.findKey kt (fk k) es.toList).run P W = .ok none W ∧ (∀ e ∈ es.toList, e.key ≠ fk k) ∧ ∀ p ∈ m, p.1 ≠ k) ∨
    ∃ j e v, (Instr.findKey kt (fk k) es.toList).run P W = .ok (some (j, fv v)) W ∧ es.toList[j]? = some e ∧ e.key = fk k ∧ m[j]? = some (k, v) := by
  obtain ⟨l, hl⟩ := hk
  have hes : ∀ e ∈ es.toList, ∃ l, keyOf P kt e.key = some l := by
    intro e he
    have : (e.key, e.val) ∈ m.map (fun p => (fk p.1, fv p.2)) := by rw [← h2]; exact List.mem_map.2 ⟨e, he, rfl⟩
    obtain ⟨p, hp, e1⟩ := List.mem_map.1 this
    obtain ⟨l, hl⟩ := h.ks p hp
    injection e1 with e1 _
    exact ⟨l, by rw [← e1]; exact hl⟩
  rcases T.K.find W hl es.toList hes with ⟨h3, h4⟩ | ⟨j, e, h3, h4, h5⟩
  · refine .inl ⟨h3, h4, fun p hp e1 => ?_⟩
    have : (fk p.1, fv p.2) ∈ es.toList.map (fun e => (e.key, e.val)) := by rw [h2]; exact List.mem_map.2 ⟨p, hp, rfl⟩
    obtain ⟨e, he, e2⟩ := List.mem_map.1 this
    injection e2 with e2 _
    exact h4 e he (by rw [e2, e1])
  · have h6 : (m.map (fun p => (fk p.1, fv p.2)))[j]? = some (e.key, e.val) := by rw [← h2, List.getElem?_map, h4]; rfl
    rw [List.getElem?_map, Option.map_eq_some_iff] at h6
    obtain ⟨p, hp, e1⟩ := h6
    injection e1 with e1 e2
    have hpk : p.1 = k := T.inj (e1.trans h5)
    refine .inr ⟨j, e, p.2, ?_, h4, h5, ?_⟩
    · rw [h3, ← e2]
    · rw [hp, ← hpk]
theorem run_lookup_m (T : MapTy P t kt et fk fv) (h : MapAt P kt fk fv W g m) {k : κ} (hk : KeyOk P kt fk k) (z : Value) (hz : (zeroValue et).run P W = .ok z W) (c : Bool) :
    (Instr.lookup t (.map (some g)) (fk k) c).run P W = .ok (if c then .tuple #[(mGet m k).elim z fv, .bool (mHas m k)] else (mGet m k).elim z fv) W := by
  obtain ⟨es, clock, h1, h2, h3⟩ := h.ok
  obtain ⟨l, hl⟩ := hk
  rcases map_find T h h1 ⟨l, hl⟩ h2 with ⟨h4, _, h5⟩ | ⟨j, e, v, h4, _, _, h5⟩
  · have hg := mGet_none h5
    simp [Instr.lookup, run_underlying T.ht, MapKept.run_getObj_map h1, T.K.check W _ hl, h4, hz, Result.andThen, mHas, hg]
  · have hg : mGet m k = some v := mGet_at h.mok h5
    simp [Instr.lookup, run_underlying T.ht, MapKept.run_getObj_map h1, T.K.check W _ hl, h4, Result.andThen, mHas, hg]
theorem setBlock_grown (W : World) (g : Nat) (o : Obj) : W.grownBy (ChangeMaps.setBlock W g o) (some g) :=
  ⟨rfl, rfl, rfl, by simp [ChangeMaps.setBlock], fun k hk hne => by
    have : g ≠ k := fun e => hne (by rw [e])
    simp [ChangeMaps.setBlock, Array.getElem?_setIfInBounds, this]⟩
theorem setBlock_new (W : World) (g : Nat) (o : Obj) (h : g < W.heap.size) : (ChangeMaps.setBlock W g o).heap[g]? = some o := by
  simp [ChangeMaps.setBlock, Array.getElem?_setIfInBounds, h]
theorem run_update_m (T : MapTy P t kt et fk fv) (h : MapAt P kt fk fv W g m) {k : κ} (hk : KeyOk P kt fk k) (v : ν) :
    ∃ W', (Instr.mapUpdate t (.map (some g)) (fk k) (fv v)).run P W = .ok () W' ∧ MapAt P kt fk fv W' g (mPut m k v) ∧ W.grownBy W' (some g) := by
  obtain ⟨es, clock, h1, h2, h3⟩ := h.ok
  have hlt := h.lt
  obtain ⟨l, hl⟩ := hk
  have hks : ∀ p ∈ mPut m k v, KeyOk P kt fk p.1 := fun p hp => by
    unfold mPut at hp
    split at hp
    · obtain ⟨q, hq, rfl⟩ := List.mem_map.1 hp
      by_cases e : q.1 = k
      · rw [if_pos e]; exact ⟨l, hl⟩
      · rw [if_neg e]; exact h.ks q hq
    · rcases List.mem_append.1 hp with hp | hp
      · exact h.ks p hp
      · rw [List.mem_singleton] at hp; subst hp; exact ⟨l, hl⟩
  rcases map_find T h h1 ⟨l, hl⟩ h2 with ⟨h4, h6, h5⟩ | ⟨j, e, v0, h4, h6, h7, h5⟩
  · refine ⟨ChangeMaps.setBlock W g (.map (es.push ⟨fk k, fv v, clock⟩) (clock + 1)), ?_, ⟨⟨_, _, setBlock_new W g _ hlt, ?_, MapKept.stamped_push h3 h6⟩, hks⟩, setBlock_grown _ _ _⟩
    · simp [Instr.mapUpdate, run_underlying T.ht, MapKept.run_getObj_map h1, T.K.check W false hl, h4, MapKept.run_setObj_map _ h1, Result.andThen, ChangeMaps.setBlock]
    · have hh : ¬ mHas m k = true := by unfold mHas; rw [mGet_none h5]; simp
      unfold mPut
      rw [if_neg hh, Array.toList_push, List.map_append, List.map_append, h2]; rfl
  · have hj : es[j]? = some e := by simpa using h6
    have hkeyf : ∀ e', es[j]? = some e' → ({ e' with key := fk k, val := fv v } : MapEntry).key = e'.key := fun e' he' => by rw [hj] at he'; cases he'; exact h7.symm
    refine ⟨ChangeMaps.setBlock W g (.map (es.modify j (fun e' => { e' with key := fk k, val := fv v })) clock), ?_, ⟨⟨_, _, setBlock_new W g _ hlt, ?_, MapKept.stamped_modify h3 _ _ (fun _ _ => rfl) (fun e' _ he' => hkeyf e' he')⟩, hks⟩, setBlock_grown _ _ _⟩
    · simp [Instr.mapUpdate, run_underlying T.ht, MapKept.run_getObj_map h1, T.K.check W false hl, h4, hj, h7, T.K.stays W hl, MapKept.run_setObj_map _ h1, Result.andThen, ChangeMaps.setBlock]
    · rw [mPut_set h.mok h5, Array.toList_modify, ChangeMaps.modify_eq_set _ _ _ _ h6, List.map_set, h2, List.map_set]
theorem run_delete_m (T : MapTy P t kt et fk fv) (h : MapAt P kt fk fv W g m) {k : κ} (hk : KeyOk P kt fk k) (ty : TypeId) :
    ∃ W', (Builtin.delete_ #[t, kt] ty #[.map (some g), fk k]).run P W = .ok (.tuple #[]) W' ∧ MapAt P kt fk fv W' g (mDel m k) ∧ W.grownBy W' (some g) := by
  obtain ⟨es, clock, h1, h2, h3⟩ := h.ok
  have hlt := h.lt
  obtain ⟨l, hl⟩ := hk
  have hks : ∀ p ∈ mDel m k, KeyOk P kt fk p.1 := fun p hp => h.ks p (List.mem_filter.1 hp).1
  rcases map_find T h h1 ⟨l, hl⟩ h2 with ⟨h4, h6, h5⟩ | ⟨j, e, v0, h4, h6, h7, h5⟩
  · refine ⟨ChangeMaps.setBlock W g (.map es clock), ?_, ⟨⟨_, _, setBlock_new W g _ hlt, ?_, h3⟩, hks⟩, setBlock_grown _ _ _⟩
    · simp [Builtin.delete_, run_underlying T.ht, MapKept.run_getObj_map h1, T.K.check W _ hl, h4, MapKept.run_setObj_map _ h1, Result.andThen, ChangeMaps.setBlock]
    · rw [mDel_none h5, h2]
  · refine ⟨ChangeMaps.setBlock W g (.map (es.eraseIdxIfInBounds j) clock), ?_, ⟨⟨_, _, setBlock_new W g _ hlt, ?_, MapKept.stamped_erase h3 j⟩, hks⟩, setBlock_grown _ _ _⟩
    · simp [Builtin.delete_, run_underlying T.ht, MapKept.run_getObj_map h1, T.K.check W _ hl, h4, MapKept.run_setObj_map _ h1, Result.andThen, ChangeMaps.setBlock]
    · have hjl : j < es.size := by have := (List.getElem?_eq_some_iff.1 h6).1; simpa using this
      rw [mDel_erase h.mok h5]
      rw [show (es.eraseIdxIfInBounds j).toList = es.toList.eraseIdx j by simp [Array.eraseIdxIfInBounds, hjl]]
      rw [ChangeMaps.map_eraseIdx, ChangeMaps.map_eraseIdx, h2]
end
section
variable {E : Nat → Prop} {P : Program} {ops : Array Oper} {rest : List Oper} {op : Oper} {a : Act} {w0 w : World} {Q : Exit → Act → World → Prop} {l : List Res} {t kt et : TypeId} {κ ν : Type} [DecidableEq κ] {fk : κ → Value} {fv : ν → Value} {g : Nat} {m : List (κ × ν)}
theorem MemX.map_ (h : MemX E w0 w l) (i : Nat) (hi : l[i]? = some (mapR P kt fk fv g m)) : MapAt P kt fk fv w g m := h.get i hi
theorem MemX.mapNew (h : MemX E w0 w l) (P : Program) (kt : TypeId) (fk : κ → Value) (fv : ν → Value) : MemX E w0 (w.alloc (.map #[] 0)) (l ++ [mapR P kt fk fv w.heap.size []]) :=
  h.push (below_ca (Below.refl _ _) _) mapR_stab (map_new w) (fun g hg => by
    have : w.heap.size = g := by simpa [mapR] using hg
    subst this; exact ⟨Nat.le_refl _, by simp⟩)
theorem MemX.mapPut {w' : World} {m' : List (κ × ν)} (h : MemX E w0 w l) (i : Nat) (hi : l[i]? = some (mapR P kt fk fv g m)) (hO : w.grownBy w' (some g)) (hA : MapAt P kt fk fv w' g m') : MemX E w0 w' (l.set i (mapR P kt fk fv g m')) :=
  h.upd i hi hO mapR_stab hA (fun j hj => ⟨.inl hj, (Option.some.inj (show some g = some j from hj)) ▸ hA.lt⟩)
/-- guards: which operation stands first -/
theorem at_lookup_ {d : Option Tmp} {T ty : TypeId} {x y : Operand} {c : Bool} {ps : String} {af : Array Edge} {g : Option (Nat × Bool)} (h : wpList P ops Q ({ dst := d, op := .lookup T x y c, type := ty, pos := ps, after := af, guard := g } :: rest) a w) : wpList P ops Q ({ dst := d, op := .lookup T x y c, type := ty, pos := ps, after := af, guard := g } :: rest) a w := h
theorem at_mapUpdate_ {d : Option Tmp} {T ty : TypeId} {x y z : Operand} {ps : String} {af : Array Edge} {g : Option (Nat × Bool)} (h : wpList P ops Q ({ dst := d, op := .mapUpdate T x y z, type := ty, pos := ps, after := af, guard := g } :: rest) a w) : wpList P ops Q ({ dst := d, op := .mapUpdate T x y z, type := ty, pos := ps, after := af, guard := g } :: rest) a w := h
theorem at_delete_ {d : Option Tmp} {ts : Array TypeId} {ty : TypeId} {xs : Array Operand} {ps : String} {af : Array Edge} {g : Option (Nat × Bool)} (h : wpList P ops Q ({ dst := d, op := .call { callee := .builtin .delete, args := xs, argTypes := ts }, type := ty, pos := ps, after := af, guard := g } :: rest) a w) : wpList P ops Q ({ dst := d, op := .call { callee := .builtin .delete, args := xs, argTypes := ts }, type := ty, pos := ps, after := af, guard := g } :: rest) a w := h
theorem at_makeMap_ {d : Option Tmp} {T ty : TypeId} {ps : String} {af : Array Edge} {g : Option (Nat × Bool)} {r : Option Operand} (h : wpList P ops Q ({ dst := d, op := .makeMap T r, type := ty, pos := ps, after := af, guard := g } :: rest) a w) : wpList P ops Q ({ dst := d, op := .makeMap T r, type := ty, pos := ps, after := af, guard := g } :: rest) a w := h
theorem wpList_lookup_m (hgd : Region.wanted op (yielded ops a.tmps) = true) (x y : Operand) (c : Bool) (ho : op.op = .lookup t x y c) (T : MapTy P t kt et fk fv) (z : Value) (hz : ∀ W, (zeroValue et).run P W = .ok z W) (i : Nat) (hM : MemX E w0 w l) (hi : l[i]? = some (mapR P kt fk fv g m)) (hx : a.eval x = .map (some g)) (k : κ) (hy : a.eval y = fk k) (hk : KeyOk P kt fk k)
    (h : wpList P ops Q rest (a.put op.dst (if c then .tuple #[(mGet m k).elim z fv, .bool (mHas m k)] else (mGet m k).elim z fv)) w) : wpList P ops Q (op :: rest) a w :=
  wpList_step fun K hK => by
    rw [if_pos hgd]
    unfold Oper.wp execOp
    simp only [ho, hx, hy, run_lookup_m T (hM.map_ i hi) hk z (hz w) c, Sem.run_bind, Sem.run_pure, Result.andThen_ok]
    exact hK _ _ h
theorem wpList_mapUpdate_m (hgd : op.guard = none) (x y v : Operand) (ho : op.op = .mapUpdate t x y v) (T : MapTy P t kt et fk fv) (i : Nat) (hM : MemX E w0 w l) (hi : l[i]? = some (mapR P kt fk fv g m)) (hx : a.eval x = .map (some g)) (k : κ) (hy : a.eval y = fk k) (hk : KeyOk P kt fk k) (u : ν) (hv : a.eval v = fv u)
    (h : ∀ W, MemX E w0 W (l.set i (mapR P kt fk fv g (mPut m k u))) → wpList P ops Q rest (a.put op.dst undef) W) : wpList P ops Q (op :: rest) a w :=
  wpList_plain hgd fun K hK => by
    obtain ⟨W', hr, hA, hO⟩ := run_update_m T (hM.map_ i hi) hk u
    unfold Oper.wp execOp
    simp only [ho, hx, hy, hv, hr, Sem.run_bind, Sem.run_pure, Result.andThen_ok]
    exact hK _ _ (h _ (hM.mapPut i hi hO hA))
theorem wpList_delete_m (hgd : op.guard = none) (x y : Operand) (ho : op.op = .call { callee := .builtin .delete, args := #[x, y], argTypes := #[t, kt] }) (T : MapTy P t kt et fk fv) (i : Nat) (hM : MemX E w0 w l) (hi : l[i]? = some (mapR P kt fk fv g m)) (hx : a.eval x = .map (some g)) (k : κ) (hy : a.eval y = fk k) (hk : KeyOk P kt fk k)
    (h : ∀ W, MemX E w0 W (l.set i (mapR P kt fk fv g (mDel m k))) → wpList P ops Q rest (a.put op.dst (.tuple #[])) W) : wpList P ops Q (op :: rest) a w :=
  wpList_plain hgd fun K hK => by
    obtain ⟨W', hr, hA, hO⟩ := run_delete_m T (hM.map_ i hi) hk op.type
    unfold Oper.wp execOp
    simp only [ho, resolve, invoke, builtin, Sem.run_bind, Sem.run_pure, Result.andThen_ok, List.map_toArray, List.map_cons, List.map_nil, hx, hy, hr]
    exact hK _ _ (h _ (hM.mapPut i hi hO hA))
theorem wpList_makeMap_m (hgd : op.guard = none) (ho : op.op = .makeMap t none) (P' : Program) (kt : TypeId) (fk : κ → Value) (fv : ν → Value) (hM : MemX E w0 w l)
    (h : ∀ g W, MemX E w0 W (l ++ [mapR P' kt fk fv g []]) → wpList P ops Q rest (a.put op.dst (.map (some g))) W) : wpList P ops Q (op :: rest) a w :=
  wpList_plain hgd fun K hK => by
    unfold Oper.wp execOp
    simp only [ho, Instr.makeMap, Option.map_none, Sem.run_bind, Sem.run_pure, Result.andThen_ok, run_newObj_alloc]
    exact hK _ _ (h _ _ (hM.mapNew P' kt fk fv))
theorem run_len_m (ht : P.underlying t = some (.map kt et)) (h : MapAt P kt fk fv w g m) (ty : TypeId) : (Builtin.len_ #[t] ty #[.map (some g)]).run P w = .ok (.int .i64 m.length) w := by
  obtain ⟨es, clock, h1, h2, h3⟩ := h.ok
  have hk : P.mapKeyOf t = kt := by simp [Program.mapKeyOf, ht]
  have he : P.mapElemOf t = et := by simp [Program.mapElemOf, ht]
  have := run_len_map (P := P) (w := w) t ty g es clock (by rw [hk, he]; exact ht) h1
  rw [this]
  have hl : es.size = m.length := by have := congrArg List.length h2; simpa using this
  simp [goInt, hl]
theorem at_len_ {d : Option Tmp} {ts : Array TypeId} {ty : TypeId} {xs : Array Operand} {ps : String} {af : Array Edge} {g : Option (Nat × Bool)} (h : wpList P ops Q ({ dst := d, op := .call { callee := .builtin .len, args := xs, argTypes := ts }, type := ty, pos := ps, after := af, guard := g } :: rest) a w) : wpList P ops Q ({ dst := d, op := .call { callee := .builtin .len, args := xs, argTypes := ts }, type := ty, pos := ps, after := af, guard := g } :: rest) a w := h
theorem wpList_len_m (hgd : op.guard = none) (x : Operand) (ho : op.op = .call { callee := .builtin .len, args := #[x], argTypes := #[t] }) (ht : P.underlying t = some (.map kt et)) (i : Nat) (hM : MemX E w0 w l) (hi : l[i]? = some (mapR P kt fk fv g m)) (hx : a.eval x = .map (some g))
    (h : wpList P ops Q rest (a.put op.dst (.int .i64 m.length)) w) : wpList P ops Q (op :: rest) a w :=
  wpList_plain hgd fun K hK => by
    unfold Oper.wp execOp
    simp only [ho, resolve, invoke, builtin, Sem.run_bind, Sem.run_pure, Result.andThen_ok, List.map_toArray, List.map_cons, List.map_nil, hx, run_len_m ht (hM.map_ i hi)]
    exact hK _ _ h
end
end Go.Proofs.Ytmcdmgnpbhkdhaa
