/- Package slices over rows of Bound: ContainsFunc, Clone, DeleteFunc. -/
import Derived.Test.YtppjmhkecogbcaaSlBnd
namespace Go.Proofs.Ytppjmhkecogbcaa
open Go.RowKit Go.Lib
set_option linter.unusedVariables false
set_option linter.unusedSimpArgs false

theorem contains_cl (v c : Value) (rs : List KBound) (p : KBound → Bool) (w : World) (hW : (rdR 7 cBound v rs).P w) (hn : rs.length ≤ 100000)
    (hcl : ∀ (W : World) (r : KBound), r ∈ rs → Below w.heap.size w W → Calls Try.prog 34 #[.agg (cBound r).toArray, c] W fun e w' => e = .returned (.bool (p r)) ∧ Below W.heap.size W w') :
    Calls Try.prog 33 #[v, .func (.func 34) #[] #[c]] w fun e w' => e = .returned (.bool (rs.any p)) ∧ Below w.heap.size w w' := by
  have hi := idx_cl v c rs p w hW hn hcl
  have hany : rs.any p = decide (0 ≤ idxOf p rs) := by
    by_cases h : 0 ≤ idxOf p rs
    · obtain ⟨k, r, _, h2, h3⟩ := idxOf_some p rs h
      rw [decide_eq_true h]
      exact List.any_eq_true.2 ⟨r, List.mem_of_getElem? h2, h3⟩
    · rw [decide_eq_false h]
      exact List.any_eq_false.2 fun r hr => by simp [idxOf_neg p rs (by omega) r hr]
  have hlo := (idxOf_lo p rs).1
  generalize idxOf p rs = ix at *
  rw [hany]
  have HI := Lib.hid hi
  clear hi hcl hany hW
  go_enter Try.func33, Try.ntmps33
  go_wp2_with (go_at_call 32; refine HI.out.mono ?_; rintro e W1 ⟨rfl, hB1⟩)
  go_ret
  exact ⟨rfl, hB1⟩
theorem clone_bnd (v : Value) (rs : List KBound) (w : World) (hW : (rdR 7 cBound v rs).P w) (hn : rs.length ≤ 100000) :
    Calls Try.prog 21 #[v] w fun e w' => ∃ v', e = .returned v' ∧ Mem w w' [rdR 7 cBound v' rs] := by
  by_cases h0 : rs.length = 0
  · have hnil : rs = [] := List.eq_nil_of_length_eq_zero h0
    subst hnil
    obtain ⟨A, cap, rfl⟩ := rdR_form hW
    clear hW h0
    have fin : ∀ (W : World) (o : Option Addr) (c : Nat), Below w.heap.size w W → Mem w W [rdR 7 cBound (.slice o 0 c) []] := fun W o c hB =>
      (Mem.nil w).push hB rdR_stab (show (rdR 7 cBound (.slice o 0 c) []).P W from ⟨o, c, rfl⟩) (fun g hg => by cases hg)
    have HF := Lib.hid fin
    clear fin
    cases A with
    | none =>
      have hnil : ∀ W, (binOp .eql 34 (.slice none 0 cap) (.slice none 0 0)).run Try.prog W = .ok (.bool true) W := fun W => run_eql_sl_nil W none 0 cap Try.underlying34
      go_enter Try.func21, Try.ntmps21
      go_wp2_with fail
      go_ret
      exact ⟨_, rfl, HF.out _ _ _ (Below.refl _ _)⟩
    | some a =>
      have hnil : ∀ W, (binOp .eql 34 (.slice (some a) 0 cap) (.slice none 0 0)).run Try.prog W = .ok (.bool false) W := fun W => run_eql_sl_nil W (some a) 0 cap Try.underlying34
      go_enter Try.func21, Try.ntmps21
      go_wp2_with fail
      go_ret
      exact ⟨_, rfl, HF.out _ _ _ ((Below.refl _ _).alloc (Nat.le_refl _) _)⟩
  · obtain ⟨A, cap, rfl⟩ := rdR_form hW
    have hWr := rdR_pos hW (by omega)
    obtain ⟨g, off, cap', hv, hWA⟩ := hWr.pos (by omega)
    injection hv with hv1 _ hv2
    subst hv1 hv2
    have HW := Lib.hid hWr
    clear hWr hW hWA
    have hpos : 0 < rs.length := by omega
    have h9 : rs.length * 56 ≤ 140737488355328 := by omega
    have hnil : ∀ W, (binOp .eql 34 (.slice (some ⟨g, off, none⟩) rs.length cap) (.slice none 0 0)).run Try.prog W = .ok (.bool false) W := fun W => run_eql_sl_nil W _ _ cap Try.underlying34
    go_enter Try.func21, Try.ntmps21
    have hmx : rs.length ≤ maxLen := by unfold maxLen; omega
    go_wp2_with (first | ((with_reducible refine at_append_ ?_); refine wpList_clone_row (f := cBound) (size := 7) rfl _ _ _ 39 rfl Try.underlying34 56 elem_Bound (by decide) _ rfl _ rs rfl (HW.out.alloc _) hpos (fun _ => rfl) one_cBound h9 hmx ?_; intro v' W hM))
    go_ret
    refine ⟨_, rfl, ?_⟩
    have h1 := ((Mem.nil w).kept ((Below.refl _ _).alloc (Nat.le_refl _) (.cells #[] 39))).new_ hM
    rw [rdR_eq hpos]
    exact h1
/-- the places that are kept -/
theorem keep_step {α : Type} (l : List α) (p : α → Bool) (k : Nat) (x : α) (h : l[k]? = some x) : (l.take (k + 1)).filter (fun y => !p y) = (l.take k).filter (fun y => !p y) ++ if p x = true then [] else [x] := by
  rw [List.take_add_one, h, List.filter_append]
  congr 1
  cases hp : p x <;> simp [hp]
theorem keep_first {α : Type} (l : List α) (p : α → Bool) (k : Nat) (h : ∀ j r, j < k → l[j]? = some r → p r = false) : (l.take k).filter (fun y => !p y) = l.take k :=
  List.filter_eq_self.2 fun x hx => by
    obtain ⟨j, hj⟩ := List.getElem?_of_mem hx
    have hjl := (List.getElem?_eq_some_iff.1 hj).1
    rw [List.length_take] at hjl
    rw [List.getElem?_take, if_pos (by omega)] at hj
    simpa using h j x (by omega) hj
theorem keep_lt {α : Type} (l : List α) (p : α → Bool) (m k : Nat) (x : α) (hm : l[m]? = some x) (hp : p x = true) (hk : m < k) : ((l.take k).filter (fun y => !p y)).length < k := by
  have h1 : (l.take k).length ≤ k := by rw [List.length_take]; omega
  refine Nat.lt_of_lt_of_le ?_ h1
  refine Nat.lt_of_le_of_ne (List.length_filter_le _ _) fun e => ?_
  have h2 := List.length_filter_eq_length_iff.1 e x (List.mem_of_getElem? (l := l.take k) (i := m) (by rw [List.getElem?_take, if_pos hk]; exact hm))
  rw [hp] at h2
  cases h2
set_option maxRecDepth 100000 in
set_option maxHeartbeats 4000000 in
/-- nothing to take out -/
theorem delf_none (v c : Value) (rs : List KBound) (p : KBound → Bool) (w : World) (hW : (rdR 7 cBound v rs).P w) (hn : rs.length ≤ 100000) (hp : ∀ r ∈ rs, p r = false)
    (hcl : ∀ (W : World) (r : KBound), r ∈ rs → Below w.heap.size w W → Calls Try.prog 26 #[.agg (cBound r).toArray, c] W fun e w' => e = .returned (.bool (p r)) ∧ Below W.heap.size W w') :
    Calls Try.prog 25 #[v, .func (.func 26) #[] #[c]] w fun e w' => e = .returned v ∧ Below w.heap.size w w' := by
  have hi := idx_dr v c rs p w hW hn hcl
  rw [idxOf_none p rs hp] at hi
  have HI := Lib.hid hi
  clear hi hcl hW hp
  go_enter Try.func25, Try.ntmps25
  go_wp2_with (go_at_call 32; refine HI.out.mono ?_; rintro e W1 ⟨rfl, hB1⟩)
  go_ret
  exact ⟨rfl, hB1⟩
theorem winAt_of {E : Nat → Prop} {w W : World} {g off cap n size : Nat} {cs : List Value} (hn : 0 < n) (h : MemX E w W [winR 0 size (.slice (some ⟨g, off, none⟩) n cap) n cs]) : WinAt W 0 size g off cap n cs ∧ cs.length = n * size := by
  have hW := h.win_ 0 rfl
  obtain ⟨g', off', cap', hv, hWA⟩ := hW.pos hn
  injection hv with hv1 _ hv2
  injection hv1 with hv1
  injection hv1 with e1 e2 _
  subst e1 e2 hv2
  exact ⟨hWA, hW.1⟩
set_option maxRecDepth 100000 in
set_option maxHeartbeats 8000000 in
theorem delf_some (E : Nat → Prop) (g off : Nat) (cap : Nat) (c : Value) (rs : List KBound) (p : KBound → Bool) (w : World) (hE : ∀ k, E k → k = g)
    (hM : MemX E w w [winR 0 7 (.slice (some ⟨g, off, none⟩) rs.length cap) rs.length (rs.flatMap cBound)]) (hn : rs.length ≤ 100000) (m : Nat) (x : KBound) (hm : rs[m]? = some x) (hpx : p x = true) (hpm : ∀ j r, j < m → rs[j]? = some r → p r = false)
    (hcl : ∀ (W : World) (r : KBound), r ∈ rs → w.grownBy W (some g) → Calls Try.prog 26 #[.agg (cBound r).toArray, c] W fun e w' => e = .returned (.bool (p r)) ∧ Below W.heap.size W w') :
    Calls Try.prog 25 #[.slice (some ⟨g, off, none⟩) rs.length cap, .func (.func 26) #[] #[c]] w fun e w' => e = .returned (.slice (some ⟨g, off, none⟩) (rs.filter (fun y => !p y)).length cap) ∧ MemX E w w' [winR 0 7 (.slice (some ⟨g, off, none⟩) (rs.filter (fun y => !p y)).length cap) (rs.filter (fun y => !p y)).length ((rs.filter (fun y => !p y)).flatMap cBound)] := by
  have hml : m < rs.length := (List.getElem?_eq_some_iff.1 hm).1
  have hi := idx_dr (.slice (some ⟨g, off, none⟩) rs.length cap) c rs p w (rdR_of (hM.win_ 0 rfl)) hn (fun W r hr hB => hcl W r hr (only_below (only_refl w _) hB))
  rw [idxOf_hit p rs m x hm hpx hpm] at hi
  have hle := (winAt_of (by omega) hM).1.le
  have hmx := (winAt_of (by omega) hM).1.mx
  unfold maxLen at hmx
  have HI := Lib.hid hi
  have HCL := Lib.hid hcl
  have HK0 := Lib.hid (show (rs.take (m + 1)).filter (fun y => !p y) = rs.take m by rw [keep_step rs p m x hm, if_pos hpx, List.append_nil, keep_first rs p m hpm])
  have HLT := Lib.hid (fun k => keep_lt rs p m k x hm hpx)
  have HEE := Lib.hid hE
  clear hi hcl hm hpx hpm hE
  have HM := Lib.hid hM
  clear hM
  have hm4 : m ≤ 100000 := by omega
  go_enter Try.func25, Try.ntmps25
  go_wp2_with (go_at_call 32; refine HI.out.mono ?_; rintro e W1 ⟨rfl, hB1⟩)
  go_loopg [5, 6] (rs.length - (m + 1)) (fun gh iv jv wr => ∃ (k iN : Nat) (rs' : List KBound), gh = rs.length - k ∧ m + 1 ≤ k ∧ k ≤ rs.length ∧ iN < k ∧ iv = .int .i64 iN ∧ jv = .int .i64 k ∧ MemX E w wr [winR 0 7 (.slice (some ⟨g, off, none⟩) rs.length cap) rs.length (rs'.flatMap cBound)] ∧ Hid (rs'.length = rs.length ∧ rs'.take iN = (rs.take k).filter (fun y => !p y) ∧ iN = ((rs.take k).filter (fun y => !p y)).length ∧ rs'.drop k = rs.drop k))
  case atStart =>
    refine ⟨m + 1, m, rs, by omega, by omega, by omega, by omega, rfl, by go_num, HM.out.kept hB1, Lib.hid ⟨rfl, HK0.out.symm, ?_, rfl⟩⟩
    rw [HK0.out, List.length_take]
    omega
  case round =>
    obtain ⟨k, iN, rs', hgk, hmk, hkn, hik, rfl, rfl, hM, HR⟩ := hrel
    have HGK := Lib.hid hgk
    clear hgk hB1
    have hik2 : iN ≤ 100000 := by omega
    have hk2 : k ≤ 100000 := by omega
    by_cases hlt : k < rs.length
    · obtain ⟨r, hr⟩ : ∃ r, rs[k]? = some r := ⟨rs[k], List.getElem?_eq_getElem hlt⟩
      obtain ⟨h1, h2, h3, h4⟩ := HR.out
      have hr' : rs'[k]? = some r := by
        have e : (rs'.drop k)[0]? = (rs.drop k)[0]? := by rw [h4]
        rw [List.getElem?_drop, List.getElem?_drop, Nat.add_zero] at e
        rw [e, hr]
      have hmem := List.mem_of_getElem? hr
      have hrg : ∀ W, MemX E w W [winR 0 7 (.slice (some ⟨g, off, none⟩) rs.length cap) rs.length (rs'.flatMap cBound)] → W.rangeAt g (off + k * 7) (cBound r) := fun W hM => by
        have hW : Win W 0 7 (.slice (some ⟨g, off, none⟩) rs.length cap) rs'.length (rs'.flatMap cBound) := by rw [h1]; exact hM.win_ 0 rfl
        exact row_range (size := 7) (f := cBound) (fun _ => rfl) hW k r hr'
      have hrg1 := hrg _ hM
      have hst := keep_step rs p k r hr
      clear hrg
      cases hp : p r
      · rw [hp] at hst
        simp only [Bool.false_eq_true, if_false] at hst
        have HCR := Lib.hid (fun (W : World) (hB : w.grownBy W (some g)) => hp ▸ HCL.out W r hmem hB)
        have HST := Lib.hid (show (rs'.set iN r).length = rs.length ∧ (rs'.set iN r).take (iN + 1) = (rs.take (k + 1)).filter (fun y => !p y) ∧ iN + 1 = ((rs.take (k + 1)).filter (fun y => !p y)).length ∧ (rs'.set iN r).drop (k + 1) = rs.drop (k + 1) by
          refine ⟨by rw [List.length_set]; exact h1, ?_, by rw [hst, List.length_append, ← h3]; rfl, ?_⟩
          · rw [hst, ← h2, List.take_add_one, List.take_set_of_le (Nat.le_refl _), List.getElem?_set_self (by omega)]
            rfl
          · rw [List.drop_set_of_lt (by omega), ← List.drop_drop, ← List.drop_drop, h4])
        have HF := Lib.hid (set_flat (f := cBound) (size := 7) (fun _ => rfl) rs' iN r (by omega))
        clear hp hmem hst h1 h2 h3 h4 hr hr'
        go_upto_region 9 with         (first
          | go_skip
          | ((with_reducible refine at_load_ (T := 39) ?_); refine wpList_load_mid rfl 39 _ rfl g (off + k * 7) rfl (cBound r) _ hrg1 Try.underlying39 rfl info_cBound ?_)
          | (go_at_call 26; refine (HCR.out _ (hM.fr.only HEE.out)).mono ?_; rintro e W5 ⟨rfl, hB5⟩; replace hM := hM.kept hB5; clear hB5)
          | ((with_reducible refine at_box_ ?_); refine wpList_box_mem rfl _ _ rfl _ rfl hM ?_; clear hM; intro gb W hM; first | (simp only [List.nil_append] at hM) | (simp only [List.cons_append, List.nil_append] at hM))
          | ((with_reducible refine at_alloc_ (T := 39) ?_); refine wpList_alloc_mem rfl 39 rfl _ zv_Bound _ rfl hM ?_; clear hM; intro gb W hM; first | (simp only [List.nil_append] at hM) | (simp only [List.cons_append, List.nil_append] at hM))
          | ((with_reducible refine at_load_ (T := 39) ?_); refine at_wanted_ (by rfl) ?_; first | (refine wpList_loadg_mem (by go_simp) 39 _ rfl 0 _ _ _ hM rfl rfl _ Try.underlying39 rfl sz_Bound ?_) | (refine wpList_loadg_mem (by go_simp) 39 _ rfl 1 _ _ _ hM rfl rfl _ Try.underlying39 rfl sz_Bound ?_))
          | ((with_reducible refine at_store_ (T := 39) ?_); first | (refine wpList_store_mem rfl 39 _ _ rfl 0 _ _ _ _ hM rfl rfl rfl rfl sz_Bound rfl ?_; clear hM; intro W hM; simp only [List.set_cons_zero] at hM) | (refine wpList_store_mem rfl 39 _ _ rfl 1 _ _ _ _ hM rfl rfl rfl rfl sz_Bound rfl ?_; clear hM; intro W hM; simp only [List.set_cons_succ, List.set_cons_zero] at hM)))
        obtain ⟨q1, q2⟩ := winAt_of (by omega) (hM.take_ 1)
        obtain ⟨hs1, hs2, hs3⟩ := q1.setAt q2 iN (by omega) (cBound r) rfl
        rw [← HF.out] at hs1
        have hM2 := hM.winPut 0 rfl hs2 (v' := .slice (some ⟨g, off, none⟩) rs.length cap) ⟨by rw [flat_len (f := cBound) (size := 7) (fun _ => rfl), HST.out.1], .inr ⟨g, off, cap, rfl, hs1⟩⟩ (.inl rfl)
        have hoc : (cBound r).toArray.all (·.oneCell') = true := all_oneCell_toArray (one_cBound r)
        have hic : iN < rs.length := by omega
        clear q1 q2 hs1 hs2
        go_wp2_with         (first
          | go_skip
          | ((with_reducible refine at_store_ (T := 39) ?_); refine wpList_store_mid rfl 39 _ _ rfl g (off + iN * 7) (cBound r).toArray rfl rfl hs3 sz_Bound hoc ?_; clear hM; have hM := hM2; clear hM2)
          | ((with_reducible refine at_box_ ?_); refine wpList_box_mem rfl _ _ rfl _ rfl hM ?_; clear hM; intro gb W hM; first | (simp only [List.nil_append] at hM) | (simp only [List.cons_append, List.nil_append] at hM))
          | ((with_reducible refine at_alloc_ (T := 39) ?_); refine wpList_alloc_mem rfl 39 rfl _ zv_Bound _ rfl hM ?_; clear hM; intro gb W hM; first | (simp only [List.nil_append] at hM) | (simp only [List.cons_append, List.nil_append] at hM))
          | ((with_reducible refine at_load_ (T := 39) ?_); refine at_wanted_ (by rfl) ?_; first | (refine wpList_loadg_mem (by go_simp) 39 _ rfl 0 _ _ _ hM rfl rfl _ Try.underlying39 rfl sz_Bound ?_) | (refine wpList_loadg_mem (by go_simp) 39 _ rfl 1 _ _ _ hM rfl rfl _ Try.underlying39 rfl sz_Bound ?_))
          | ((with_reducible refine at_store_ (T := 39) ?_); first | (refine wpList_store_mem rfl 39 _ _ rfl 0 _ _ _ _ hM rfl rfl rfl rfl sz_Bound rfl ?_; clear hM; intro W hM; simp only [List.set_cons_zero] at hM) | (refine wpList_store_mem rfl 39 _ _ rfl 1 _ _ _ _ hM rfl rfl rfl rfl sz_Bound rfl ?_; clear hM; intro W hM; simp only [List.set_cons_succ, List.set_cons_zero] at hM)))
        go_roundg (rs.length - (k + 1))
        case measure => have := HGK.out; omega
        case rel =>
          exact ⟨k + 1, iN + 1, rs'.set iN r, rfl, by omega, by omega, by omega, by go_num, by go_num, hM.take_ 1, HST⟩
      · rw [hp, if_pos rfl, List.append_nil] at hst
        have HCR := Lib.hid (fun (W : World) (hB : w.grownBy W (some g)) => hp ▸ HCL.out W r hmem hB)
        have HST := Lib.hid (show rs'.length = rs.length ∧ rs'.take iN = (rs.take (k + 1)).filter (fun y => !p y) ∧ iN = ((rs.take (k + 1)).filter (fun y => !p y)).length ∧ rs'.drop (k + 1) = rs.drop (k + 1) by
          rw [hst]
          exact ⟨h1, h2, h3, by rw [← List.drop_drop, ← List.drop_drop, h4]⟩)
        clear hp hmem hst h1 h2 h3 h4 hr hr'
        go_wp2_with         (first
          | go_skip
          | ((with_reducible refine at_load_ (T := 39) ?_); refine wpList_load_mid rfl 39 _ rfl g (off + k * 7) rfl (cBound r) _ hrg1 Try.underlying39 rfl info_cBound ?_)
          | (go_at_call 26; refine (HCR.out _ (hM.fr.only HEE.out)).mono ?_; rintro e W5 ⟨rfl, hB5⟩; replace hM := hM.kept hB5; clear hB5)
          | ((with_reducible refine at_box_ ?_); refine wpList_box_mem rfl _ _ rfl _ rfl hM ?_; clear hM; intro gb W hM; first | (simp only [List.nil_append] at hM) | (simp only [List.cons_append, List.nil_append] at hM))
          | ((with_reducible refine at_alloc_ (T := 39) ?_); refine wpList_alloc_mem rfl 39 rfl _ zv_Bound _ rfl hM ?_; clear hM; intro gb W hM; first | (simp only [List.nil_append] at hM) | (simp only [List.cons_append, List.nil_append] at hM))
          | ((with_reducible refine at_load_ (T := 39) ?_); refine at_wanted_ (by rfl) ?_; first | (refine wpList_loadg_mem (by go_simp) 39 _ rfl 0 _ _ _ hM rfl rfl _ Try.underlying39 rfl sz_Bound ?_) | (refine wpList_loadg_mem (by go_simp) 39 _ rfl 1 _ _ _ hM rfl rfl _ Try.underlying39 rfl sz_Bound ?_))
          | ((with_reducible refine at_store_ (T := 39) ?_); first | (refine wpList_store_mem rfl 39 _ _ rfl 0 _ _ _ _ hM rfl rfl rfl rfl sz_Bound rfl ?_; clear hM; intro W hM; simp only [List.set_cons_zero] at hM) | (refine wpList_store_mem rfl 39 _ _ rfl 1 _ _ _ _ hM rfl rfl rfl rfl sz_Bound rfl ?_; clear hM; intro W hM; simp only [List.set_cons_succ, List.set_cons_zero] at hM)))
        go_roundg (rs.length - (k + 1))
        case measure => have := HGK.out; omega
        case rel =>
          exact ⟨k + 1, iN, rs', rfl, by omega, by omega, by omega, rfl, by go_num, hM.take_ 1, HST⟩
    · obtain rfl : k = rs.length := by omega
      obtain ⟨h1, h2, h3, h4⟩ := HR.out
      rw [List.take_length] at h2 h3
      obtain ⟨q1, q2⟩ := winAt_of (by omega) hM
      have hsh := q1.shrink q2 iN (by omega)
      rw [← take_flat (f := cBound) (size := 7) (fun _ => rfl), h2] at hsh
      have hcs := flat_len (f := cBound) (size := 7) (fun _ => rfl) (rs.filter fun y => !p y)
      rw [← h3] at hcs
      have HC := Lib.hid (fun (ty : TypeId) => run_clear_win (P := Try.prog) 34 39 ty (.agg zBound.toArray) Try.underlying34 zv_Bound rfl (by decide) (fun v hv => by
        have hv' : v ∈ zBound := by
          have h : v ∈ zBound.toArray := hv
          simpa using h
        simp only [zBound, List.mem_cons, List.not_mem_nil, or_false] at hv'
        rcases hv' with rfl | rfl | rfl | rfl | rfl | rfl | rfl <;> rfl) hsh hcs (rs.length - iN) (cap - iN) (by omega) (by omega))
      have HM2 := Lib.hid (fun (W' : World) (h : WinAt W' 0 7 g off cap iN ((rs.filter fun y => !p y).flatMap cBound)) (hg : wr.grownBy W' (some g)) => hM.winPut 0 rfl hg (v' := .slice (some ⟨g, off, none⟩) iN cap) (n' := iN) (cs' := (rs.filter fun y => !p y).flatMap cBound) ⟨hcs, .inr ⟨g, off, cap, rfl, h⟩⟩ (.inl rfl))
      have H3 := Lib.hid h3
      have hic : ¬ iN = cap := by omega
      have hic2 : iN ≤ cap := by omega
      have hic3 : iN ≤ rs.length := by omega
      clear h1 h2 h3 h4 q1 q2 hsh hcs hM
      go_wp2_with (first | (obtain ⟨w2, hr2, hw2, hg2⟩ := HC.out _; refine wpList_clear_run rfl _ _ rfl _ rfl _ _ hr2 ?_; clear hr2))
      go_ret
      rw [← H3.out]
      exact ⟨rfl, HM2.out _ hw2 hg2⟩
end Go.Proofs.Ytppjmhkecogbcaa
