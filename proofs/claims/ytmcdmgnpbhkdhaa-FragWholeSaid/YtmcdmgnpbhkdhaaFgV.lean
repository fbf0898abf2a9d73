/- frag: Tick (plain). -/
import Derived.Test.YtmcdmgnpbhkdhaaFgI
namespace Go.Proofs.Ytmcdmgnpbhkdhaa
open Go.RowKit Go.Lib
set_option linter.unusedVariables false
set_option linter.unusedSimpArgs false

/-- what n ticks make of an entry -/
def tkE (n : Int) (e : FE) : Option FE := if 30 - e.f.age ≤ n then none else some { e with f := { e.f with age := e.f.age + n } }
/-- the same of those only that have been met -/
def tkS (n : Int) (S : List KNm) (e : FE) : Option FE := if e.k ∈ S then tkE n e else some e
/-- the same of one only -/
def tk1 (n : Int) (k : KNm) (e : FE) : Option FE := if e.k = k then tkE n e else some e
theorem tkE_k {n : Int} {e e' : FE} (h : tkE n e = some e') : e'.k = e.k ∧ e'.g = e.g := by
  unfold tkE at h
  split at h
  · cases h
  · cases h; exact ⟨rfl, rfl⟩
theorem tkS_k {n : Int} {S : List KNm} {e e' : FE} (h : tkS n S e = some e') : e'.k = e.k ∧ e'.g = e.g := by
  unfold tkS at h
  split at h
  · exact tkE_k h
  · cases h; exact ⟨rfl, rfl⟩
theorem tk_nil (n : Int) (es : List FE) : es.filterMap (tkS n []) = es := by
  induction es with
  | nil => rfl
  | cons a t ih => rw [List.filterMap_cons, ih]; simp [tkS]
theorem tk_mem {n : Int} {S : List KNm} {es : List FE} {x : FE} (h : x ∈ es.filterMap (tkS n S)) (hk : x.k ∉ S) : x ∈ es := by
  obtain ⟨a, ha, e⟩ := List.mem_filterMap.1 h
  have h1 := (tkS_k e).1
  unfold tkS at e
  rw [if_neg (by rw [← h1]; exact hk)] at e
  cases e; exact ha
theorem tk_step {n : Int} {S : List KNm} {k : KNm} (hk : k ∉ S) (es : List FE) : es.filterMap (tkS n (k :: S)) = (es.filterMap (tkS n S)).filterMap (tk1 n k) := by
  rw [List.filterMap_filterMap]
  congr 1
  funext e
  by_cases h1 : e.k ∈ S
  · have hne : e.k ≠ k := fun h => hk (h ▸ h1)
    have e1 : tkS n (k :: S) e = tkE n e := if_pos (List.mem_cons_of_mem _ h1)
    have e2 : tkS n S e = tkE n e := if_pos h1
    rw [e1, e2]
    cases h : tkE n e with
    | none => rfl
    | some e' =>
      show some e' = tk1 n k e'
      rw [tk1, if_neg (by rw [(tkE_k h).1]; exact hne)]
  · have e2 : tkS n S e = some e := if_neg h1
    rw [e2]
    show tkS n (k :: S) e = tk1 n k e
    by_cases h : e.k = k
    · rw [tk1, if_pos h, tkS, if_pos (by rw [h]; exact List.mem_cons_self)]
    · rw [tk1, if_neg h, tkS, if_neg (fun hm => (List.mem_cons.1 hm).elim h h1)]
theorem tk1_none {n : Int} {k : KNm} {l : List FE} (h : ∀ e ∈ l, e.k ≠ k) : l.filterMap (tk1 n k) = l := by
  induction l with
  | nil => rfl
  | cons a t ih =>
    have : tk1 n k a = some a := if_neg (h a List.mem_cons_self)
    rw [List.filterMap_cons, this, ih fun e he => h e (List.mem_cons_of_mem _ he)]
theorem tk1_at {n : Int} {l : List FE} (hn : (l.map (·.k)).Nodup) {i : Nat} {x : FE} (hx : l[i]? = some x) : l.filterMap (tk1 n x.k) = (match tkE n x with | none => l.eraseIdx i | some x' => l.set i x') := by
  induction l generalizing i with
  | nil => cases hx
  | cons a t ih =>
    rw [List.map_cons, List.nodup_cons] at hn
    cases i with
    | zero =>
      have hax : a = x := by simpa using hx
      subst hax
      have h1 : t.filterMap (tk1 n a.k) = t := tk1_none fun e he h => hn.1 (h ▸ List.mem_map.2 ⟨e, he, rfl⟩)
      have h2 : tk1 n a.k a = tkE n a := if_pos rfl
      rw [List.filterMap_cons, h2, h1]
      cases tkE n a <;> rfl
    | succ i =>
      have hx' : t[i]? = some x := by simpa using hx
      have hne : a.k ≠ x.k := fun h => hn.1 (h ▸ List.mem_map.2 ⟨x, List.mem_of_getElem? hx', rfl⟩)
      have h2 : tk1 n x.k a = some a := if_neg hne
      rw [List.filterMap_cons, h2, ih hn.2 hx']
      cases tkE n x <;> rfl
theorem tk_nodup {f : FE → Option FE} (hf : ∀ e e', f e = some e' → e'.k = e.k) {es : List FE} (h : (es.map (·.k)).Nodup) : ((es.filterMap f).map (·.k)).Nodup := by
  induction es with
  | nil => simp
  | cons a t ih =>
    rw [List.map_cons, List.nodup_cons] at h
    rw [List.filterMap_cons]
    cases ha : f a with
    | none => exact ih h.2
    | some a' =>
      show ((a' :: t.filterMap f).map (·.k)).Nodup
      rw [List.map_cons, List.nodup_cons]
      refine ⟨fun hm => ?_, ih h.2⟩
      obtain ⟨e', he', hk⟩ := List.mem_map.1 hm
      obtain ⟨e, he, hfe⟩ := List.mem_filterMap.1 he'
      have h1 := hf _ _ hfe
      have h2 := hf _ _ ha
      refine h.1 (List.mem_map.2 ⟨e, he, ?_⟩)
      rw [← h1, ← h2]; exact hk
theorem tk_all {n : Int} {S : List KNm} {es : List FE} (h : ∀ x ∈ es.filterMap (tkS n S), x.k ∈ S) : es.filterMap (tkS n S) = es.filterMap (tkE n) := by
  induction es with
  | nil => rfl
  | cons a t ih =>
    have hS : a.k ∈ S := by
      by_cases hS : a.k ∈ S
      · exact hS
      · exact h a (List.mem_filterMap.2 ⟨a, List.mem_cons_self, if_neg hS⟩)
    have ha : tkS n S a = tkE n a := if_pos hS
    have ht := ih fun x hx => h x (by
      obtain ⟨e, he, h1⟩ := List.mem_filterMap.1 hx
      exact List.mem_filterMap.2 ⟨e, List.mem_cons_of_mem _ he, h1⟩)
    rw [List.filterMap_cons, List.filterMap_cons, ha, ht]
theorem tkE_ok {n : Int} (hn : 0 ≤ n) {e e' : FE} (h : tkE n e = some e') (ok : FgOk e.f) : FgOk e'.f := by
  unfold tkE at h
  split at h
  · cases h
  · rename_i hlt
    cases h
    exact ⟨ok.en1, ok.en2, ok.la1, ok.la2, by have := ok.age1; show 0 ≤ e.f.age + n; omega, by show e.f.age + n ≤ 30; omega, ok.rng⟩
theorem FInv.tick {n : Int} (hn : 0 ≤ n) {S : List KNm} {es : List FE} (h : FInv es) : FInv (es.filterMap (tkS n S)) := by
  refine ⟨tk_nodup (fun e e' he => (tkS_k he).1) h.nd, fun e' he' => ?_, Nat.le_trans (List.length_filterMap_le _ _) h.len⟩
  obtain ⟨e, he, h1⟩ := List.mem_filterMap.1 he'
  have ok := h.ok e he
  unfold tkS at h1
  split at h1
  · exact tkE_ok hn h1 ok
  · cases h1; exact ok
end Go.Proofs.Ytmcdmgnpbhkdhaa
