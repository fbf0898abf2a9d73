/- PollTold: what Wait(16) tells, and what the program's account says of it (plain). -/
import Derived.Test.YtgdfjkdcdfmifaaPtA
namespace Go.Proofs.Ytgdfjkdcdfmifaa
open Go.RowKit Go.Lib
set_option linter.unusedVariables false
set_option linter.unusedSimpArgs false

def fP (T : List KW) (p : Nat) (x : KW) : KW := if x.fd ∈ (T.take p).map (·.fd) then toldW x else x
theorem fP_zero (T zs : List KW) : zs.map (fP T 0) = zs := by
  conv => rhs; rw [← List.map_id zs]
  exact List.map_congr_left fun x _ => by simp [fP]
theorem told_nodup {ws T : List KW} (hI : PInv ws) (hT : T = ws.filter tellB) {p : Nat} {x : KW} (hx : T[p]? = some x) : x.fd ∉ (T.take p).map (·.fd) := by
  have hsub : (T.map (·.fd)).Nodup := by
    rw [hT]
    exact hI.nd.sublist (List.filter_sublist.map _)
  intro hm
  obtain ⟨hl1, hx1⟩ := List.getElem?_eq_some_iff.1 hx
  have h3 : (T.map (·.fd)).take p ++ (T.map (·.fd)).drop p = T.map (·.fd) := List.take_append_drop _ _
  rw [← h3, List.nodup_append] at hsub
  refine hsub.2.2 x.fd ?_ x.fd ?_ rfl
  · rw [← List.map_take]; exact hm
  · rw [← List.map_drop]
    exact List.mem_map.2 ⟨x, List.mem_of_getElem? (i := 0) (by rw [List.getElem?_drop]; simpa using hx), rfl⟩
theorem told_mem {ws T : List KW} (hT : T = ws.filter tellB) {p : Nat} {x : KW} (hx : T[p]? = some x) : x ∈ ws ∧ tellB x = true := by
  have := List.mem_of_getElem? hx
  rw [hT] at this
  exact List.mem_filter.1 this
theorem take_fds {T : List KW} {p : Nat} {x : KW} (hx : T[p]? = some x) : (T.take (p + 1)).map (·.fd) = (T.take p).map (·.fd) ++ [x.fd] := by
  rw [List.take_add_one, hx, Option.toList_some, List.map_append]; rfl
theorem told_step {ws zs T : List KW} (hI : PInv ws) (hz : zs.Perm ws) (hT : T = ws.filter tellB) {p : Nat} {x : KW} (hx : T[p]? = some x) :
    ∃ zs', (zs.map (fP T p)).Perm (x :: zs') ∧ (zs.map (fP T (p + 1))).Perm (toldW x :: zs') := by
  obtain ⟨hm, _⟩ := told_mem hT hx
  obtain ⟨z, hz2⟩ := front_of (hz.mem_iff.2 hm)
  have hn := nodup_front hI hz hz2
  have hnd := told_nodup hI hT hx
  refine ⟨z.map (fP T p), ?_, ?_⟩
  · have h1 := hz2.map (fP T p)
    rw [List.map_cons] at h1
    have : fP T p x = x := by unfold fP; rw [if_neg hnd]
    rwa [this] at h1
  · have h1 := hz2.map (fP T (p + 1))
    rw [List.map_cons] at h1
    have e : fP T (p + 1) x = toldW x := by unfold fP; rw [take_fds hx, if_pos (by simp)]
    have e2 : z.map (fP T (p + 1)) = z.map (fP T p) := List.map_congr_left fun y hy => by
      unfold fP
      rw [take_fds hx]
      have := hn y hy
      simp only [List.mem_append, List.mem_singleton, this, or_false]
    rwa [e, e2] at h1
theorem tell_mem {ws T : List KW} (hI : PInv ws) (hT : T = ws.filter tellB) {x : KW} (hx : x ∈ ws) : x.fd ∈ T.map (·.fd) ↔ tellB x = true := by
  rw [hT]
  constructor
  · intro h
    obtain ⟨y, hy, e⟩ := List.mem_map.1 h
    obtain ⟨h1, h2⟩ := List.mem_filter.1 hy
    rw [← hI.inj h1 hx e]; exact h2
  · intro h
    exact List.mem_map.2 ⟨x, List.mem_filter.2 ⟨hx, h⟩, rfl⟩
theorem fP_end {ws T : List KW} (hI : PInv ws) (hT : T = ws.filter tellB) {x : KW} (hx : x ∈ ws) : fP T T.length x = if tellB x = true then toldW x else x := by
  unfold fP
  rw [List.take_length]
  by_cases h : tellB x = true
  · rw [if_pos h, if_pos ((tell_mem hI hT hx).2 h)]
  · rw [if_neg h, if_neg (fun h2 => h ((tell_mem hI hT hx).1 h2))]
theorem split_perm : ∀ (ws : List KW), (ws.map (fun x => if tellB x = true then toldW x else x)).Perm (ws.filter (fun x => !tellB x) ++ (ws.filter tellB).map toldW)
  | [] => List.Perm.nil
  | x :: ws => by
    have ih := split_perm ws
    cases hx : tellB x
    · rw [List.map_cons, List.filter_cons, List.filter_cons]
      simp only [hx, Bool.not_false, if_true, Bool.false_eq_true, if_false, List.cons_append]
      exact ih.cons _
    · rw [List.map_cons, List.filter_cons, List.filter_cons]
      simp only [hx, Bool.not_true, if_true, Bool.false_eq_true, if_false, List.map_cons]
      exact (ih.cons _).trans (List.perm_middle.symm)
theorem told_end {ws zs T : List KW} (hI : PInv ws) (hz : zs.Perm ws) (hT : T = ws.filter tellB) : (zs.map (fP T T.length)).Perm (ws.filter (fun x => !tellB x) ++ T.map toldW) := by
  refine (hz.map _).trans ?_
  rw [List.map_congr_left (g := fun x => if tellB x = true then toldW x else x) fun x hx => fP_end hI hT hx]
  have := split_perm ws
  rw [← hT] at this; exact this
theorem told_fds {ws T : List KW} (hT : T = ws.filter tellB) : ((ws.filter (fun x => !tellB x) ++ T.map toldW).map (·.fd)).Perm (ws.map (·.fd)) := by
  have h1 := (split_perm ws).map (·.fd)
  rw [← hT] at h1
  refine h1.symm.trans ?_
  rw [List.map_map]
  refine List.Perm.of_eq (List.map_congr_left fun x _ => ?_)
  show (if tellB x = true then toldW x else x).fd = x.fd
  split <;> rfl
theorem Acc.told {m : List (Int × Nat)} {b : Int → Nat} {ws zs T zt : List KW} (h : Acc m b ws zs) (hI : PInv ws) (hT : T = ws.filter tellB) (hz : zt.Perm (zs.map (fP T T.length))) : Acc m b (ws.filter (fun x => !tellB x) ++ T.map toldW) zt := by
  have hf := told_fds hT
  refine ⟨h.ok, fun x hx => ?_, fun p hp => ?_, hz.trans (told_end hI h.pm hT)⟩
  · have h1 := hf.mem_iff.1 (List.mem_map.2 ⟨x, hx, rfl⟩)
    obtain ⟨y, hy, e⟩ := List.mem_map.1 h1
    rw [← e]; exact h.get y hy
  · obtain ⟨y, hy, e⟩ := h.val p hp
    have h1 := hf.mem_iff.2 (List.mem_map.2 ⟨y, hy, rfl⟩)
    obtain ⟨x, hx, e2⟩ := List.mem_map.1 h1
    exact ⟨x, hx, e2.trans e⟩
/-- who was told so far -/
structure Seen (m : List (Int × Int)) (l : List Int) : Prop where
  ok : mOk m
  yes : ∀ k ∈ l, mGet m k = some 1
  no : ∀ k, k ∉ l → mGet m k = none
theorem seen_nil : Seen [] [] := ⟨List.Pairwise.nil, by simp, fun k _ => rfl⟩
theorem Seen.push {m : List (Int × Int)} {l : List Int} (h : Seen m l) (k : Int) : Seen (mPut m k 1) (l ++ [k]) := by
  refine ⟨mOk_put h.ok _ _, fun j hj => ?_, fun j hj => ?_⟩
  · by_cases e : j = k
    · subst e; exact mGet_put_same h.ok _ _
    · rw [mGet_put_other _ _ e]
      exact h.yes j (by simpa [e] using hj)
  · have h1 : j ≠ k := fun e => hj (by simp [e])
    rw [mGet_put_other _ _ h1]
    exact h.no j (fun h2 => hj (by simp [h2]))
/-- what the account's map holds -/
theorem Acc.at {m : List (Int × Nat)} {b : Int → Nat} {ws zs : List KW} (h : Acc m b ws zs) {p : Int × Nat} (hp : p ∈ m) : ∃ x ∈ ws, x.fd = p.1 ∧ p.2 = b x.fd := by
  obtain ⟨x, hx, e⟩ := h.val p hp
  refine ⟨x, hx, e, ?_⟩
  have h1 := h.get x hx
  obtain ⟨j, hj⟩ := List.getElem?_of_mem hp
  have h2 := mGet_at h.ok hj
  rw [e] at h1
  rw [h1] at h2
  rw [e]
  injection h2 with h2
  exact h2.symm
theorem zt_mem {ws zs T zt : List KW} (hI : PInv ws) (hzs : zs.Perm ws) (hT : T = ws.filter tellB) (hz : zt.Perm (zs.map (fP T T.length))) {x : KW} (hx : x ∈ ws) (hn : tellB x = false) : x ∈ zt := by
  refine hz.mem_iff.2 (List.mem_map.2 ⟨x, hzs.mem_iff.2 hx, ?_⟩)
  rw [fP_end hI hT hx, if_neg (by simp [hn])]
theorem zt_mem2 {ws zs T zt : List KW} (hI : PInv ws) (hzs : zs.Perm ws) (hT : T = ws.filter tellB) (hz : zt.Perm (zs.map (fP T T.length))) {x : KW} (hx : x ∈ ws) (hn : tellB x = true) : toldW x ∈ zt := by
  refine hz.mem_iff.2 (List.mem_map.2 ⟨x, hzs.mem_iff.2 hx, ?_⟩)
  rw [fP_end hI hT hx, if_pos hn]
end Go.Proofs.Ytgdfjkdcdfmifaa
