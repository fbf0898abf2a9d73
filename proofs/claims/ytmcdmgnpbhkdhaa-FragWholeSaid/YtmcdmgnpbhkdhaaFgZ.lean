/- frag: ages (plain); the Packet of a step. -/
import Derived.Test.YtmcdmgnpbhkdhaaFgX
import Derived.Test.YtmcdmgnpbhkdhaaStep
import Derived.Test.YtmcdmgnpbhkdhaaStepM
import Derived.Test.YtmcdmgnpbhkdhaaPiece
namespace Go.Proofs.Ytmcdmgnpbhkdhaa
open Go.RowKit Go.Lib
set_option linter.unusedVariables false
set_option linter.unusedSimpArgs false

theorem fg_hand {E : Nat → Prop} {w W : World} (A : List Res) {B : List Res} (h : MemX E w W (A ++ B)) : MemX (blkE B) W W B := (h.perm List.perm_append_comm).hand
theorem fg_back {E : Nat → Prop} {w W W' : World} (A : List Res) {B B' : List Res} (h : MemX E w W (A ++ B)) (h' : MemX (blkE B) W W' B') : MemX E w W' (A ++ B') := ((h.perm List.perm_append_comm).back h').perm List.perm_append_comm
def AgeIs (n : Int) (es : List FE) : Prop := ∀ e ∈ es, e.f.age = n
theorem putF_age (f : FW) (p : Pk) (fr : Nat) : (putF f p fr).age = f.age := by unfold putF; split <;> rfl
theorem age_tail {es : List FE} {i : Nat} {e : FE} {p r : Pk} {fr : Nat} {is : Bool} {er : Int} {es' : List FE} (h : AgeIs 0 es) (he : es[i]? = some e) (ht : TailR es i e p fr r is er es') : AgeIs 0 es' := by
  rcases ht with ⟨_, _, _, _, rfl⟩ | ⟨_, _, _, _, _, rfl⟩ | ⟨_, _, _, _, _, rfl⟩
  · exact fun x hx => h x (List.mem_of_mem_eraseIdx hx)
  · intro x hx
    rcases List.mem_or_eq_of_mem_set hx with hx | rfl
    · exact h x hx
    · show (putF e.f p fr).age = 0
      rw [putF_age]; exact h e (List.mem_of_getElem? he)
  · exact fun x hx => h x (List.mem_of_mem_eraseIdx hx)
theorem age_in {es : List FE} {p r : Pk} {is : Bool} {er : Int} {es' : List FE} (h : AgeIs 0 es) (ht : InR es p r is er es') : AgeIs 0 es' := by
  rcases ht with ⟨_, _, _, _, rfl⟩ | ⟨_, _, _, _, _, rfl⟩ | ⟨_, _, _, _, _, rfl⟩ | ⟨_, _, _, _, _, rfl⟩ | ⟨_, _, _, _, ht⟩
  · exact h
  · exact h
  · exact h
  · exact h
  · rcases ht with ⟨_, _, _, _, _, rfl⟩ | ⟨i, e, he, _, ht⟩ | ⟨_, _, gn, ht⟩
    · exact h
    · exact age_tail h he ht
    · refine age_tail (es := es ++ [⟨keyP p, gn, newF⟩]) (fun x hx => ?_) (by simp) ht
      rcases List.mem_append.1 hx with hx | hx
      · exact h x hx
      · rw [List.mem_singleton.1 hx]; rfl
theorem age_tick {es : List FE} {n : Int} (h : AgeIs 0 es) (hn : n < 30) : (es.filterMap (tkE n)).length = es.length ∧ AgeIs n (es.filterMap (tkE n)) := by
  induction es with
  | nil => exact ⟨rfl, fun x hx => by cases hx⟩
  | cons a t ih =>
    have h0 := h a List.mem_cons_self
    obtain ⟨h1, h2⟩ := ih fun x hx => h x (List.mem_cons_of_mem _ hx)
    have ha : tkE n a = some { a with f := { a.f with age := a.f.age + n } } := if_neg (by rw [h0]; omega)
    rw [List.filterMap_cons, ha]
    refine ⟨by simp only [List.length_cons, h1], fun x hx => ?_⟩
    rcases List.mem_cons.1 hx with rfl | hx
    · show a.f.age + n = n
      rw [h0]; omega
    · exact h2 x hx
theorem age_end {es : List FE} {n : Int} (h : AgeIs n es) : es.filterMap (tkE (30 - n)) = [] := by
  induction es with
  | nil => rfl
  | cons a t ih =>
    have ha : tkE (30 - n) a = none := if_pos (by rw [h a List.mem_cons_self]; omega)
    rw [List.filterMap_cons, ha]
    exact ih fun x hx => h x (List.mem_cons_of_mem _ hx)
theorem FInv.tickE {n : Int} (hn : 0 ≤ n) {es : List FE} (h : FInv es) : FInv (es.filterMap (tkE n)) := by
  refine ⟨tk_nodup (fun e e' he => (tkE_k he).1) h.nd, fun e' he' => ?_, Nat.le_trans (List.length_filterMap_le _ _) h.len⟩
  obtain ⟨e, he, h1⟩ := List.mem_filterMap.1 he'
  exact tkE_ok hn h1 (h.ok e he)
theorem step_pkt {cs : List Value} (h : okAll ksStep cs) : ∃ p : Pk, PkLim p ∧ (cs.drop 7).take (pkC p).length = pkC p := by
  obtain ⟨v0, hv0, n0, rfl, a0, b0⟩ := okAll_at 7 h rfl
  obtain ⟨v1, hv1, n1, rfl, a1, b1⟩ := okAll_at 8 h rfl
  obtain ⟨v2, hv2, n2, rfl, a2, b2⟩ := okAll_at 9 h rfl
  obtain ⟨v3, hv3, n3, rfl, a3, b3⟩ := okAll_at 10 h rfl
  obtain ⟨v4, hv4, n4, rfl, a4, b4⟩ := okAll_at 11 h rfl
  obtain ⟨v5, hv5, n5, rfl⟩ := okAll_at 12 h rfl
  obtain ⟨v6, hv6, n6, rfl⟩ := okAll_at 13 h rfl
  obtain ⟨v7, hv7, n7, rfl, a7, b7⟩ := okAll_at 14 h rfl
  obtain ⟨v8, hv8, n8, rfl, a8⟩ := okAll_at 15 h rfl
  refine ⟨⟨n0, n1, n2, n3, n4, n5, n6, n7, n8⟩, ⟨⟨⟨a0, b0⟩, ⟨a1, b1⟩, ⟨a2, b2⟩, ⟨a3, b3⟩, ⟨a4, b4⟩, ⟨a7, b7⟩, by show n8.size ≤ 9223372036854775807; omega⟩, a8⟩, ?_⟩
  have hl := step_len h
  have hd : ∀ (i : Nat) (v : Value), cs[i]? = some v → cs.drop i = v :: cs.drop (i + 1) := fun i v hv => by
    have hi := (List.getElem?_eq_some_iff.1 hv).1
    rw [List.drop_eq_getElem_cons hi]
    rw [List.getElem?_eq_getElem hi] at hv
    rw [Option.some.inj hv]
  rw [hd 7 _ hv0, hd 8 _ hv1, hd 9 _ hv2, hd 10 _ hv3, hd 11 _ hv4, hd 12 _ hv5, hd 13 _ hv6, hd 14 _ hv7, hd 15 _ hv8]
  rfl
end Go.Proofs.Ytmcdmgnpbhkdhaa
