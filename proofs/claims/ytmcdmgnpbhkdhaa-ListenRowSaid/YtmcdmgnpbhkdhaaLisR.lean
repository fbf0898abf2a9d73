/- The plain law of ListenRow. -/
import Derived.Test.YtmcdmgnpbhkdhaaLisL
import Derived.Test.YtmcdmgnpbhkdhaaStep
import Derived.Test.YtmcdmgnpbhkdhaaStepM
import Derived.Test.YtmcdmgnpbhkdhaaPiece
namespace Go.Proofs.Ytmcdmgnpbhkdhaa
open Go.RowKit Go.Lib
set_option linter.unusedVariables false

theorem kend_mk (d : KDone) (e : KEnd) : dEnd d = e ↔ d.a = e.a ∧ d.p = e.p := ⟨fun h => by rw [← h]; exact ⟨rfl, rfl⟩, fun h => kend_ext h.1 h.2⟩
structure LInv (b : Int) (q : KLis) : Prop where
  e : q.bl = b
  b1 : 1 ≤ b
  b2 : b ≤ 8
  h : (q.half.length : Int) ≤ b
  w : (q.wt.length : Int) ≤ b
  d : q.wt.Pairwise (fun x y => dEnd x ≠ dEnd y)
section
variable {b : Int} {q : KLis}
theorem LInv.ok (h : LInv b q) : LisOk q := ⟨by have := h.e; have := h.b1; omega, by have := h.e; have := h.b2; omega, by have := h.h; have := h.b2; omega, by have := h.w; have := h.b2; omega⟩
theorem linv_new (h1 : 1 ≤ b) (h2 : b ≤ 8) : LInv b (newLis b) := ⟨rfl, h1, h2, by show (0 : Int) ≤ b; omega, by show (0 : Int) ≤ b; omega, List.Pairwise.nil⟩
theorem mDel_le {κ ν : Type} [DecidableEq κ] (m : List (κ × ν)) (k : κ) : (mDel m k).length ≤ m.length := List.length_filter_le _ _
theorem linv_half (h : LInv b q) (e : KEnd) : LInv b (lHalf q e) ∧ (lHalf q e).wt = q.wt := by
  unfold lHalf
  split
  · exact ⟨h, rfl⟩
  · rename_i h1
    split
    · exact ⟨h, rfl⟩
    · rename_i h2
      refine ⟨⟨h.e, h.b1, h.b2, ?_, h.w, h.d⟩, rfl⟩
      show ((mPut q.half e 1).length : Int) ≤ b
      rw [mPut_len, if_neg (fun h3 => h1 (.inl h3))]
      have := h.h; have := h.e
      omega
theorem lisI_neg (e : KEnd) (h : ¬ 0 ≤ lisI q e) : ∀ d ∈ q.wt, dEnd d ≠ e := fun d hd he => by
  have h1 : idxOf (fun d => decide (dEnd d = e)) q.wt < 0 := by unfold lisI at h; omega
  have := idxOf_neg (fun d => decide (dEnd d = e)) q.wt h1 d hd
  simp [he] at this
theorem linv_done (h : LInv b q) (e : KEnd) (id : Int) : LInv b (lDone q e id) ∧ (lDone q e id).wt.map dEnd = if lDoneE q e = 0 then q.wt.map dEnd ++ [e] else q.wt.map dEnd := by
  unfold lDone lDoneE
  split
  · exact And.intro h (by rw [if_neg (by omega)])
  · rename_i h1
    have hm := mDel_le q.half e
    have hh := h.h
    split
    · exact And.intro ⟨h.e, h.b1, h.b2, by show ((mDel q.half e).length : Int) ≤ b; omega, h.w, h.d⟩ (by rw [if_neg (by omega)])
    · rename_i h2
      refine ⟨⟨h.e, h.b1, h.b2, by show ((mDel q.half e).length : Int) ≤ b; omega, ?_, ?_⟩, ?_⟩
      · show ((q.wt ++ [(⟨id, e.a, e.p⟩ : KDone)]).length : Int) ≤ b
        rw [List.length_append]
        have := h.w; have := h.e
        simp; omega
      · refine List.pairwise_append.2 ⟨h.d, List.pairwise_singleton _ _, fun x hx y hy => ?_⟩
        rw [List.mem_singleton] at hy
        subst hy
        exact lisI_neg e h1 x hx
      · rw [if_pos rfl]
        show (q.wt ++ [(⟨id, e.a, e.p⟩ : KDone)]).map dEnd = _
        rw [List.map_append]; rfl
/-- those that are not e -/
def noE' (l : List KEnd) (e : KEnd) : List KEnd := l.filter (fun x => !decide (x = e))
theorem noE_none {l : List KEnd} {e : KEnd} (h : ∀ x ∈ l, x ≠ e) : noE' l e = l := List.filter_eq_self.2 fun x hx => by simpa using h x hx
theorem noE_erase : ∀ (l : List KDone) (e : KEnd) (k : Nat) (d : KDone), l.Pairwise (fun x y => dEnd x ≠ dEnd y) → l[k]? = some d → dEnd d = e → (l.eraseIdx k).map dEnd = noE' (l.map dEnd) e
  | [], e, k, d, _, h, _ => by simp at h
  | x :: l, e, 0, d, hp, h, he => by
    obtain ⟨h1, h2⟩ := List.pairwise_cons.1 hp
    simp at h; subst h
    unfold noE'
    rw [List.eraseIdx_cons_zero, List.map_cons, List.filter_cons, if_neg (by simp [he])]
    refine (List.filter_eq_self.2 fun y hy => ?_).symm
    obtain ⟨z, hz, rfl⟩ := List.mem_map.1 hy
    have := h1 z hz
    rw [he] at this
    simpa using this.symm
  | x :: l, e, k + 1, d, hp, h, he => by
    obtain ⟨h1, h2⟩ := List.pairwise_cons.1 hp
    have h' : l[k]? = some d := by simpa using h
    have hx : dEnd x ≠ e := fun e2 => h1 d (List.mem_of_getElem? h') (e2.trans he.symm)
    have ih := noE_erase l e k d h2 h' he
    rw [List.eraseIdx_cons_succ, List.map_cons, ih]
    unfold noE'
    rw [List.map_cons, List.filter_cons, if_pos (by simpa using hx)]
theorem linv_gone (h : LInv b q) (e : KEnd) : LInv b (lGone q e) ∧ (lGone q e).wt.map dEnd = noE' (q.wt.map dEnd) e := by
  have hm := mDel_le q.half e
  have hh := h.h
  unfold lGone
  split
  · rename_i h1
    obtain ⟨k, d, h2, h3, h4⟩ := idxOf_some (fun d => decide (dEnd d = e)) q.wt h1
    have h5 : (lisI q e).toNat = k := by unfold lisI; omega
    rw [h5]
    refine ⟨⟨h.e, h.b1, h.b2, by show ((mDel q.half e).length : Int) ≤ b; omega, ?_, ?_⟩, ?_⟩
    · show ((q.wt.eraseIdx k).length : Int) ≤ b
      have := List.length_eraseIdx_le q.wt k
      have := h.w
      omega
    · exact h.d.sublist (List.eraseIdx_sublist _ _)
    · exact noE_erase q.wt e k d h.d h3 (by simpa using h4)
  · rename_i h1
    refine ⟨⟨h.e, h.b1, h.b2, by show ((mDel q.half e).length : Int) ≤ b; omega, h.w, h.d⟩, ?_⟩
    exact (noE_none fun x hx => by
      obtain ⟨d, hd, rfl⟩ := List.mem_map.1 hx
      exact lisI_neg e h1 d hd).symm
theorem linv_take (h : LInv b q) (d : KDone) (r : List KDone) (hw : q.wt = d :: r) : LInv b { q with wt := r } := by
  have h1 := h.w
  have h2 := h.d
  rw [hw] at h1 h2
  refine ⟨h.e, h.b1, h.b2, h.h, ?_, (List.pairwise_cons.1 h2).2⟩
  show (r.length : Int) ≤ b
  simp at h1; omega
end
/-- the End of a step -/
theorem step_end {cs : List Value} (h : okAll ksStep cs) : ∃ e : KEnd, EndOk e ∧ (cs.drop 34).take (cEnd e).length = cEnd e := by
  obtain ⟨v1, hv1, n, rfl, h1, h2⟩ := okAll_at 34 h rfl
  obtain ⟨v2, hv2, m, rfl, h3, h4⟩ := okAll_at 35 h rfl
  refine ⟨⟨n, m⟩, ⟨h1, h2, h3, h4⟩, ?_⟩
  have e1 : cs.drop 34 = .int .u32 n :: .int .i64 m :: cs.drop 36 := by
    have hl := step_len h
    rw [List.drop_eq_getElem_cons (by omega), List.drop_eq_getElem_cons (by omega)]
    rw [List.getElem?_eq_getElem (by omega)] at hv1 hv2
    rw [Option.some.inj hv1, Option.some.inj hv2]
  rw [e1]
  rfl
end Go.Proofs.Ytmcdmgnpbhkdhaa
