/- frag: Tick, which entries have been met (plain). -/
import Derived.Test.YtmcdmgnpbhkdhaaFgV
import Derived.Test.YtmcdmgnpbhkdhaaMapD
namespace Go.Proofs.Ytmcdmgnpbhkdhaa
open Go Go.RowKit
set_option linter.unusedVariables false
set_option linter.unusedSimpArgs false

/-- just those whose keys stand in S have been met -/
def SeenIs (es : Array MapEntry) (seen : Array Nat) (S : List KNm) : Prop := ∀ x ∈ es.toList, ∀ k, x.key = fNm k → (seen.contains x.born = true ↔ k ∈ S)
theorem seenIs_nil (es : Array MapEntry) : SeenIs es #[] [] := fun x _ k _ => by simp
theorem born_inj {es : Array MapEntry} {clock : Nat} (hst : MapKept.Stamped es clock) {x e : MapEntry} (hx : x ∈ es.toList) (he : e ∈ es.toList) (h : x.born = e.born) : x = e := by
  obtain ⟨i, hi⟩ := List.getElem?_of_mem hx
  obtain ⟨j, hj⟩ := List.getElem?_of_mem he
  have hil := (List.getElem?_eq_some_iff.1 hi).1
  have e1 : (es.toList.map (·.born))[i]? = (es.toList.map (·.born))[j]? := by rw [List.getElem?_map, List.getElem?_map, hi, hj]; simp [h]
  have hij : i = j := (List.getElem?_inj (by simpa using hil) hst.2.1).1 e1
  rw [hij, hj] at hi
  exact (Option.some.inj hi).symm
theorem SeenIs.push {es : Array MapEntry} {clock : Nat} {seen : Array Nat} {S : List KNm} (h : SeenIs es seen S) (hst : MapKept.Stamped es clock) {e : MapEntry} (he : e ∈ es.toList) {k : KNm} (hk : e.key = fNm k) : SeenIs es (seen.push e.born) (k :: S) := fun x hx k' hk' => by
  have h1 := h x hx k' hk'
  rw [Array.contains_push, Bool.or_eq_true, h1, List.mem_cons]
  constructor
  · rintro (h2 | h2)
    · exact .inr h2
    · have : x = e := born_inj hst hx he (by simpa using h2)
      subst this
      exact .inl (fNm_inj (hk'.symm.trans hk))
  · rintro (h2 | h2)
    · subst h2
      right
      have hkk : x.key = e.key := hk'.trans hk.symm
      obtain ⟨i, hi⟩ := List.getElem?_of_mem hx
      obtain ⟨j, hj⟩ := List.getElem?_of_mem he
      have hil := (List.getElem?_eq_some_iff.1 hi).1
      have e1 : (es.toList.map (·.key))[i]? = (es.toList.map (·.key))[j]? := by rw [List.getElem?_map, List.getElem?_map, hi, hj]; simp [hkk]
      have hij : i = j := (List.getElem?_inj (by simpa using hil) hst.2.2).1 e1
      rw [hij, hj] at hi
      rw [Option.some.inj hi]; simp
    · exact .inl h2
theorem SeenIs.sub {es es' : Array MapEntry} {seen : Array Nat} {S : List KNm} (h : SeenIs es seen S) (hs : ∀ x ∈ es'.toList, x ∈ es.toList) : SeenIs es' seen S := fun x hx => h x (hs x hx)
/-- an entry that is met is one of the table's, and is met for the first time -/
theorem SeenIs.next {P : Program} {kt : TypeId} {cur : List FE} {es : Array MapEntry} {clock : Nat} {seen : Array Nat} {S : List KNm} (h : SeenIs es seen S) (he : EsIs P kt fNm fGP (cur.map eP) es clock) {e : MapEntry} (hl : e ∈ (leftOf es seen).toList) : ∃ (i : Nat) (x : FE), cur[i]? = some x ∧ e.key = fNm x.k ∧ e.val = fGP x.g ∧ x.k ∉ S ∧ e ∈ es.toList := by
  obtain ⟨h1, h2⟩ := mem_left hl
  obtain ⟨p, hp, e1, e2⟩ := he.mem h1
  obtain ⟨x, hx, rfl⟩ := List.mem_map.1 hp
  obtain ⟨i, hi⟩ := List.getElem?_of_mem hx
  refine ⟨i, x, hi, e1, e2, fun hS => ?_, h1⟩
  have := (h e h1 x.k e1).2 hS
  rw [h2] at this; cases this
/-- where none is left all have been met -/
theorem SeenIs.end_ {P : Program} {kt : TypeId} {cur : List FE} {es : Array MapEntry} {clock : Nat} {seen : Array Nat} {S : List KNm} (h : SeenIs es seen S) (he : EsIs P kt fNm fGP (cur.map eP) es clock) (h0 : (leftOf es seen).size = 0) : ∀ x ∈ cur, x.k ∈ S := fun x hx => by
  have hm : (fNm x.k, fGP x.g) ∈ es.toList.map (fun e => (e.key, e.val)) := by
    rw [he.e, List.map_map]
    exact List.mem_map.2 ⟨x, hx, rfl⟩
  obtain ⟨e, hee, e1⟩ := List.mem_map.1 hm
  injection e1 with e1 e2
  refine (h e hee x.k e1).1 ?_
  cases hc : seen.contains e.born with
  | true => rfl
  | false =>
    have : e ∈ leftOf es seen := Array.mem_filter.2 ⟨Array.mem_toList_iff.1 hee, by rw [hc]; rfl⟩
    rw [Array.size_eq_zero_iff.1 h0] at this
    simp at this
end Go.Proofs.Ytmcdmgnpbhkdhaa
