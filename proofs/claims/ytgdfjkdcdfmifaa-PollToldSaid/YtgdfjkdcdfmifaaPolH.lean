/- PollTold: one of its sockets taken to the front of what is known, turned, and put back. -/
import Derived.Test.YtgdfjkdcdfmifaaPolG
namespace Go.Proofs.Ytgdfjkdcdfmifaa
open Go.RowKit Go.Lib
set_option linter.unusedVariables false
set_option linter.unusedSimpArgs false

theorem front_of {zs : List KW} {x : KW} (hx : x ∈ zs) : ∃ zs', zs.Perm (x :: zs') := by
  obtain ⟨i, hi⟩ := List.getElem?_of_mem hx
  obtain ⟨hl, rfl⟩ := List.getElem?_eq_some_iff.1 hi
  refine ⟨zs.eraseIdx i, ?_⟩
  have h3 : zs.take i ++ zs[i] :: zs.drop (i + 1) = zs := by rw [← List.drop_eq_getElem_cons hl, List.take_append_drop]
  rw [List.eraseIdx_eq_take_drop_succ]
  conv => lhs; rw [← h3]
  exact List.perm_middle
section
variable {E : Nat → Prop} {w W : World} {F : List Res} {b : Int → Nat} {zs zs' : List KW} {x : KW}
theorem sock_out (hM : MemX E w W (F ++ zs.map (sR b))) (hp : zs.Perm (x :: zs')) : MemX E w W (sR b x :: (F ++ zs'.map (sR b))) := by
  have h1 : (F ++ zs.map (sR b)).Perm (F ++ (sR b x :: zs'.map (sR b))) := (hp.map (sR b)).append_left F
  exact hM.perm (h1.trans List.perm_middle)
theorem sock_in (hM : MemX E w W (sR b x :: (F ++ zs'.map (sR b)))) : MemX E w W (F ++ (x :: zs').map (sR b)) :=
  hM.perm (List.perm_middle (a := sR b x) (l₁ := F) (l₂ := zs'.map (sR b))).symm
/-- the block of a number that nobody has may be another one -/
theorem sock_map {b' : Int → Nat} (h : ∀ x ∈ zs, b' x.fd = b x.fd) : zs.map (sR b') = zs.map (sR b) :=
  List.map_congr_left fun x hx => by unfold sR; rw [h x hx]
end
theorem nodup_front {zs zs' ws : List KW} {x : KW} (hI : PInv ws) (h : zs.Perm ws) (hp : zs.Perm (x :: zs')) : ∀ y ∈ zs', y.fd ≠ x.fd := by
  have hn := ((hp.symm.trans h).map (·.fd)).nodup_iff.2 hI.nd
  rw [List.map_cons, List.nodup_cons] at hn
  exact fun y hy e => hn.1 (List.mem_map.2 ⟨y, hy, e⟩)
theorem turn_front {zs' : List KW} {x : KW} {t : KW → KW} (h : ∀ y ∈ zs', y.fd ≠ x.fd) : turnW x.fd t (x :: zs') = t x :: zs' := by
  unfold turnW
  rw [List.map_cons, if_pos rfl]
  congr 1
  conv => rhs; rw [← List.map_id zs']
  exact List.map_congr_left fun y hy => by rw [if_neg (h y hy)]; rfl
/-- a watch turned, and its socket alike -/
theorem Acc.turn {m : List (Int × Nat)} {b : Int → Nat} {ws zs zs' : List KW} {x : KW} {k : Nat} {t : KW → KW} (h : Acc m b ws zs) (hI : PInv ws) (hk : ws[k]? = some x) (ht : ∀ y, (t y).fd = y.fd) (hp : zs.Perm (x :: zs')) : Acc m b (ws.set k (t x)) (t x :: zs') := by
  have hfd := map_fd_set (y := t x) hk (ht x)
  refine ⟨h.ok, fun y hy => ?_, fun p hp2 => ?_, ?_⟩
  · have : y.fd ∈ ws.map (·.fd) := by rw [← hfd]; exact List.mem_map.2 ⟨y, hy, rfl⟩
    obtain ⟨z, hz, e⟩ := List.mem_map.1 this
    rw [← e]; exact h.get z hz
  · obtain ⟨z, hz, e⟩ := h.val p hp2
    have : z.fd ∈ (ws.set k (t x)).map (·.fd) := by rw [hfd]; exact List.mem_map.2 ⟨z, hz, rfl⟩
    obtain ⟨y, hy, e2⟩ := List.mem_map.1 this
    exact ⟨y, hy, e2.trans e⟩
  · rw [set_turn hI hk t, ← turn_front (t := t) (nodup_front hI h.pm hp)]
    exact ((turn_perm hp x.fd t).symm).trans (turn_perm h.pm x.fd t)
/-- a new watch, and its socket -/
theorem Acc.push {m : List (Int × Nat)} {b : Int → Nat} {ws zs : List KW} {y : KW} {gs : Nat} (h : Acc m b ws zs) (hno : ∀ x ∈ ws, x.fd ≠ y.fd) : Acc (mPut m y.fd gs) (fun z => if z = y.fd then gs else b z) (ws ++ [y]) (zs ++ [y]) := by
  refine ⟨mOk_put h.ok _ _, fun x hx => ?_, fun p hp => ?_, h.pm.append_right _⟩
  · rcases List.mem_append.1 hx with hx | hx
    · rw [mGet_put_other y.fd gs (hno x hx), if_neg (hno x hx)]; exact h.get x hx
    · rw [List.mem_singleton.1 hx, mGet_put_same h.ok, if_pos rfl]
  · obtain ⟨j, hj⟩ := List.getElem?_of_mem hp
    by_cases e : p.1 = y.fd
    · exact ⟨y, by simp, e.symm⟩
    · have hg := mGet_at (mOk_put h.ok y.fd gs) hj
      rw [mGet_put_other y.fd gs e] at hg
      obtain ⟨i, hi⟩ := mGet_some hg
      obtain ⟨x, hx, e2⟩ := h.val _ (List.mem_of_getElem? hi)
      exact ⟨x, List.mem_append_left _ hx, e2⟩
/-- one that is dropped -/
theorem Acc.drop {m : List (Int × Nat)} {b : Int → Nat} {ws zs zs' : List KW} {x : KW} {k : Nat} (h : Acc m b ws zs) (hI : PInv ws) (hk : ws[k]? = some x) (hp : zs.Perm (x :: zs')) : Acc (mDel m x.fd) b (ws.eraseIdx k) zs' := by
  have hpe : ws.Perm (x :: ws.eraseIdx k) := by
    obtain ⟨hl, rfl⟩ := List.getElem?_eq_some_iff.1 hk
    have h3 : ws.take k ++ ws[k] :: ws.drop (k + 1) = ws := by rw [← List.drop_eq_getElem_cons hl, List.take_append_drop]
    rw [List.eraseIdx_eq_take_drop_succ]
    conv => lhs; rw [← h3]
    exact List.perm_middle
  refine ⟨mOk_del h.ok _, fun y hy => ?_, fun p hp2 => ?_, ?_⟩
  · rw [mGet_del_other m x.fd (hI.erased hk y hy)]
    exact h.get y (List.mem_of_mem_eraseIdx hy)
  · obtain ⟨h1, h2⟩ := List.mem_filter.1 hp2
    obtain ⟨z, hz, e⟩ := h.val p h1
    have hne : p.1 ≠ x.fd := by simpa using h2
    rcases List.mem_cons.1 (hpe.mem_iff.1 hz) with rfl | h3
    · exact absurd e.symm hne
    · exact ⟨z, h3, e⟩
  · exact (List.perm_cons x).1 ((hp.symm.trans h.pm).trans hpe)
end Go.Proofs.Ytgdfjkdcdfmifaa
