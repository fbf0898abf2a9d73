/- ports.Table: Drop, Bind. -/
import Derived.Test.YtppjmhkecogbcaaBndG
namespace Go.Proofs.Ytppjmhkecogbcaa
open Go.RowKit Go.Lib
set_option linter.unusedVariables false
set_option linter.unusedSimpArgs false

def pHas (l : List KBound) (o : Int) : Bool := l.any fun b => decide (b.ow = o)
theorem pHas_no {l : List KBound} {o : Int} (h : pHas l o = false) : ∀ b ∈ l, decide (b.ow = o) = false := fun b hb => by
  have := List.any_eq_false.1 h b hb
  simpa using this
theorem pHas_drop {l : List KBound} {o : Int} (h : pHas l o = false) : pDrop l o = l := pDrop_none fun b hb => by simpa using pHas_no h b hb
theorem pHas_lt {l : List KBound} {o : Int} (h : pHas l o = true) : (pDrop l o).length < l.length := by
  obtain ⟨b, hb, h1⟩ := List.any_eq_true.1 h
  refine Nat.lt_of_le_of_ne (List.length_filter_le _ _) fun e => ?_
  have h2 := List.length_filter_eq_length_iff.1 e b hb
  simp [h1] at h2
theorem first_of (l : List KBound) (p : KBound → Bool) (h : l.any p = true) : ∃ (m : Nat) (x : KBound), l[m]? = some x ∧ p x = true ∧ ∀ j r, j < m → l[j]? = some r → p r = false := by
  have h0 : 0 ≤ idxOf p l := by
    obtain ⟨b, hb, h1⟩ := List.any_eq_true.1 h
    refine Int.not_lt.1 fun e => ?_
    rw [idxOf_neg p l e b hb] at h1
    cases h1
  obtain ⟨m, x, h2, h3, h4⟩ := idxOf_some p l h0
  refine ⟨m, x, h3, h4, fun j r hj hr => ?_⟩
  cases hp : p r
  · rfl
  · exfalso
    -- the first place is at or ahead of j
    have key : ∀ (l : List KBound) (j : Nat) (r : KBound), l[j]? = some r → p r = true → idxOf p l ≤ j := by
      intro l
      induction l with
      | nil => intro j r hr _; simp at hr
      | cons q l ih =>
        intro j r hr hp
        unfold idxOf
        split
        · omega
        · rename_i hq
          cases j with
          | zero => simp at hr; subst hr; exact absurd hp hq
          | succ j =>
            have := ih j r (by simpa using hr) hp
            split <;> omega
    have := key l j r hr hp
    omega
set_option maxRecDepth 100000 in
set_option maxHeartbeats 4000000 in
theorem pt_Drop_none (g : Nat) (v : Value) (l : List KBound) (o : Int) (w : World) (hM : PPre w w g v l v l) (hn : l.length ≤ 100000) (hp : pHas l o = false) :
    Calls Try.prog 14 #[.pointer (some ⟨g, 0, none⟩), .int .i64 o] w fun x w' => x = .returned (.int .i64 7) ∧ PPre w w' g v l v l := by
  have HP := Lib.hid (pHas_no hp)
  have HC := Lib.hid (fun W hR => clone_bnd v l W hR hn)
  have HD := Lib.hid (fun v2 gb W (hM : MemX (blkE (pL g v l)) w W [pA g v, pW v l, atR gb 3 [.int .i64 o], rdR 7 cBound v2 l]) => delf_none v2 (.pointer (some ⟨gb, 0, none⟩)) l (fun a => decide (a.ow = o)) W (hM.get 3 rfl) hn HP.out (fun W1 r _ hB => dropcl_any gb r o W1 ((hM.kept hB).at_ 2 rfl)))
  clear hp
  obtain ⟨A, cap, rfl⟩ := (hM.win_ 1 rfl).form
  go_enter Try.func14, Try.ntmps14
  go_upto_region 2 with         (first
          | go_skip
          | (go_at_call 21; refine (HC.out _ (hM.toRd 1 rfl)).mono ?_; rintro x W1 ⟨v2, rfl, hM1⟩; replace hM := hM.join hM1; clear hM1; simp only [List.cons_append, List.nil_append] at hM; obtain ⟨A2, cap2, rfl⟩ := rdR_form (hM.get 3 rfl))
          | (go_at_call 25; refine (HD.out _ _ _ hM).mono ?_; rintro x W1 ⟨rfl, hB1⟩; replace hM := hM.kept hB1; clear hB1)
          | ((with_reducible refine at_box_ ?_); refine wpList_box_mem rfl _ _ rfl _ rfl hM ?_; clear hM; intro gb W hM; first | (simp only [List.nil_append] at hM) | (simp only [List.cons_append, List.nil_append] at hM))
          | ((with_reducible refine at_load_ ?_); refine at_wanted_ (by rfl) ?_; first | (refine wpList_loadf_mem (by go_simp) _ _ rfl (by kernel_rfl) 0 _ _ _ _ _ hM rfl rfl (by first | rfl | assumption) ?_) | (refine wpList_loadf_mem (by go_simp) _ _ rfl (by kernel_rfl) 1 _ _ _ _ _ hM rfl rfl (by first | rfl | assumption) ?_))
          | ((with_reducible refine at_store_ ?_); first | (refine wpList_store1_mem rfl _ _ _ rfl 0 _ _ _ _ _ hM rfl rfl (by first | ((conv => lhs; whnf); done) | ((conv => lhs; whnf); rfl)) (by rfl) (by rfl) (by kernel_rfl) rfl ?_; clear hM; intro W hM; simp only [pA, List.set_cons_succ, List.set_cons_zero] at hM) | (refine wpList_store1_mem rfl _ _ _ rfl 1 _ _ _ _ _ hM rfl rfl (by first | ((conv => lhs; whnf); done) | ((conv => lhs; whnf); rfl)) (by rfl) (by rfl) (by kernel_rfl) rfl ?_; clear hM; intro W hM; simp only [pA, List.set_cons_succ, List.set_cons_zero] at hM)))
  go_wp2_with         (first
          | go_skip
          | ((with_reducible refine at_box_ ?_); refine wpList_box_mem rfl _ _ rfl _ rfl hM ?_; clear hM; intro gb W hM; first | (simp only [List.nil_append] at hM) | (simp only [List.cons_append, List.nil_append] at hM))
          | ((with_reducible refine at_load_ ?_); refine at_wanted_ (by rfl) ?_; refine wpList_loadf_mem (by go_simp) _ _ rfl (by kernel_rfl) 0 _ _ _ _ _ hM rfl rfl (by first | rfl | assumption) ?_)
          | ((with_reducible refine at_store_ ?_); refine wpList_store1_mem rfl _ _ _ rfl 0 _ _ _ _ _ hM rfl rfl (by first | ((conv => lhs; whnf); done) | ((conv => lhs; whnf); rfl)) (by rfl) (by rfl) (by kernel_rfl) rfl ?_; clear hM; intro W hM; simp only [pA, List.set_cons_succ, List.set_cons_zero] at hM))
  go_ret
  exact ⟨rfl, hM.take_ 2⟩
set_option maxRecDepth 100000 in
set_option maxHeartbeats 4000000 in
theorem Drop_some (g : Nat) (v : Value) (l : List KBound) (o : Int) (w : World) (hM : PPre w w g v l v l) (hn : l.length ≤ 100000) (hp : pHas l o = true) :
    Calls Try.prog 14 #[.pointer (some ⟨g, 0, none⟩), .int .i64 o] w fun x w' => ∃ v', x = .returned (.int .i64 0) ∧ PPre w w' g v l v' (pDrop l o) := by
  obtain ⟨m, x, hm, hpx, hpm⟩ := first_of l _ hp
  have hpos : 0 < l.length := by have := (List.getElem?_eq_some_iff.1 hm).1; omega
  have HC := Lib.hid (fun W hR => clone_bnd v l W hR hn)
  have hd : ∀ (g2 off2 cap2 gb : Nat) W, MemX (blkE (pL g v l)) w W [pA g v, pW v l, atR gb 3 [.int .i64 o], rdR 7 cBound (.slice (some ⟨g2, off2, none⟩) l.length cap2) l] → Calls Try.prog 25 #[.slice (some ⟨g2, off2, none⟩) l.length cap2, .func (.func 26) #[] #[.pointer (some ⟨gb, 0, none⟩)]] W fun e w' => e = .returned (.slice (some ⟨g2, off2, none⟩) (pDrop l o).length cap2) ∧ MemX (blkE (pL g v l)) w w' [pA g v, pW v l, atR gb 3 [.int .i64 o], pW (.slice (some ⟨g2, off2, none⟩) (pDrop l o).length cap2) (pDrop l o)] := fun g2 off2 cap2 gb W hM => by
    rw [rdR_eq hpos] at hM
    have hM1 : MemX (blkE (pL g v l)) w W ([winR 0 7 (.slice (some ⟨g2, off2, none⟩) l.length cap2) l.length (l.flatMap cBound)] ++ [pA g v, pW v l, atR gb 3 [.int .i64 o]]) :=
      hM.perm (List.perm_append_comm (l₁ := [pA g v, pW v l, atR gb 3 [.int .i64 o]]) (l₂ := [_]))
    have hne : ∀ (k : Nat), blkE [winR 0 7 (.slice (some ⟨g2, off2, none⟩) l.length cap2) l.length (l.flatMap cBound)] k → k = g2 := fun k ⟨r, hr, hk⟩ => by
      rw [List.mem_singleton] at hr
      subst hr
      have hk' : some g2 = some k := hk
      exact (Option.some.inj hk').symm
    refine (delf_some _ g2 off2 cap2 (.pointer (some ⟨gb, 0, none⟩)) l (fun a => decide (a.ow = o)) W hne hM1.hand hn m x hm hpx hpm (fun W1 r _ hG => ?_)).mono ?_
    · refine dropcl_any gb r o W1 ?_
      have h1 := hM.at_ 2 rfl
      have h2 : ¬ some gb = some g2 := fun e => hM.ne 2 3 (by decide) _ _ rfl rfl gb rfl (by rw [e]; rfl)
      exact (hG.block gb h1.lt h2).trans h1
    · rintro e w' ⟨rfl, hM2⟩
      refine ⟨rfl, ?_⟩
      exact (hM1.back hM2).perm (List.perm_append_comm (l₁ := [_]) (l₂ := [pA g v, pW v l, atR gb 3 [.int .i64 o]]))
  have HD := Lib.hid hd
  have hlt := pHas_lt hp
  have hne : (((pDrop l o).length : Int) == (l.length : Int)) = false := by simp; omega
  clear hd hm hpx hpm hp
  obtain ⟨A, cap, rfl⟩ := (hM.win_ 1 rfl).form
  go_enter Try.func14, Try.ntmps14
  go_upto_region 2 with         (first
          | go_skip
          | (go_at_call 21; refine (HC.out _ (hM.toRd 1 rfl)).mono ?_; rintro x W1 ⟨v2, rfl, hM1⟩; replace hM := hM.join hM1; clear hM1; simp only [List.cons_append, List.nil_append] at hM; obtain ⟨g2, off2, cap2, rfl, _⟩ := (rdR_pos (hM.get 3 rfl) hpos).pos hpos)
          | (go_at_call 25; refine (HD.out _ _ _ _ _ hM).mono ?_; rintro x W1 ⟨rfl, hM1⟩; replace hM := hM1; clear hM1)
          | ((with_reducible refine at_box_ ?_); refine wpList_box_mem rfl _ _ rfl _ rfl hM ?_; clear hM; intro gb W hM; first | (simp only [List.nil_append] at hM) | (simp only [List.cons_append, List.nil_append] at hM))
          | ((with_reducible refine at_load_ ?_); refine at_wanted_ (by rfl) ?_; first | (refine wpList_loadf_mem (by go_simp) _ _ rfl (by kernel_rfl) 0 _ _ _ _ _ hM rfl rfl (by first | rfl | assumption) ?_) | (refine wpList_loadf_mem (by go_simp) _ _ rfl (by kernel_rfl) 1 _ _ _ _ _ hM rfl rfl (by first | rfl | assumption) ?_))
          | ((with_reducible refine at_store_ ?_); first | (refine wpList_store1_mem rfl _ _ _ rfl 0 _ _ _ _ _ hM rfl rfl (by first | ((conv => lhs; whnf); done) | ((conv => lhs; whnf); rfl)) (by rfl) (by rfl) (by kernel_rfl) rfl ?_; clear hM; intro W hM; simp only [pA, List.set_cons_succ, List.set_cons_zero] at hM) | (refine wpList_store1_mem rfl _ _ _ rfl 1 _ _ _ _ _ hM rfl rfl (by first | ((conv => lhs; whnf); done) | ((conv => lhs; whnf); rfl)) (by rfl) (by rfl) (by kernel_rfl) rfl ?_; clear hM; intro W hM; simp only [pA, List.set_cons_succ, List.set_cons_zero] at hM)))
  go_wp2_with         (first
          | go_skip
          | ((with_reducible refine at_box_ ?_); refine wpList_box_mem rfl _ _ rfl _ rfl hM ?_; clear hM; intro gb W hM; first | (simp only [List.nil_append] at hM) | (simp only [List.cons_append, List.nil_append] at hM))
          | ((with_reducible refine at_load_ ?_); refine at_wanted_ (by rfl) ?_; first | (refine wpList_loadf_mem (by go_simp) _ _ rfl (by kernel_rfl) 0 _ _ _ _ _ hM rfl rfl (by first | rfl | assumption) ?_) | (refine wpList_loadf_mem (by go_simp) _ _ rfl (by kernel_rfl) 1 _ _ _ _ _ hM rfl rfl (by first | rfl | assumption) ?_))
          | ((with_reducible refine at_store_ ?_); first | (refine wpList_store1_mem rfl _ _ _ rfl 0 _ _ _ _ _ hM rfl rfl (by first | ((conv => lhs; whnf); done) | ((conv => lhs; whnf); rfl)) (by rfl) (by rfl) (by kernel_rfl) rfl ?_; clear hM; intro W hM; simp only [pA, List.set_cons_succ, List.set_cons_zero] at hM) | (refine wpList_store1_mem rfl _ _ _ rfl 1 _ _ _ _ _ hM rfl rfl (by first | ((conv => lhs; whnf); done) | ((conv => lhs; whnf); rfl)) (by rfl) (by rfl) (by kernel_rfl) rfl ?_; clear hM; intro W hM; simp only [pA, List.set_cons_succ, List.set_cons_zero] at hM)))
  go_ret
  exact ⟨.slice (some ⟨g2, off2, none⟩) (pDrop l o).length cap2, rfl, (hM.perm (List.Perm.cons _ (List.perm_append_comm (l₁ := [_, _]) (l₂ := [_])))).take_ 2⟩
set_option maxRecDepth 100000 in
set_option maxHeartbeats 4000000 in
theorem Bind_any (g : Nat) (v : Value) (l : List KBound) (b : KBound) (w : World) (hM : PPre w w g v l v l) (hI : BInv l) :
    Calls Try.prog 18 #[.pointer (some ⟨g, 0, none⟩), .agg (cBound b).toArray] w fun x w' => ∃ v', x = .returned (.int .i64 (pBindE l b)) ∧ PPre w w' g v l v' (pBind l b) := by
  have hl := hI.len
  have HK := Lib.hid (fun W => pcheck_any b W)
  have HCL := Lib.hid (fun W hA hR => clashes_any g v l b W hA hR (by omega))
  have r1 : pBindE l b = if pOk b = true then (if pClashes l b = true then 15 else if l.length = 32 then 9 else 0) else 1 := rfl
  have r2 : pBind l b = if pOk b = true ∧ pClashes l b = false ∧ l.length ≠ 32 then l ++ [b] else l := rfl
  have r3 : pCheck b = if pOk b = true then 0 else 1 := rfl
  clear hI
  obtain ⟨A, cap, rfl⟩ := (hM.win_ 1 rfl).form
  generalize pOk b = ok at *
  generalize pClashes l b = cl at *
  cases ok
  · rw [if_neg (by simp)] at r1 r2 r3
    rw [r1, r2]
    rw [r3] at HK
    clear r1 r2 r3
    go_enter Try.func18, Try.ntmps18
    go_wp2_with (first
      | go_skip
      | (go_at_call 29; go_must (refine (HK.out _).mono ?_; rintro e W ⟨rfl, hb⟩; replace hM := hM.kept hb; clear hb))
      | ((with_reducible refine at_box_ ?_); refine wpList_box_mem rfl _ _ rfl _ rfl hM ?_; clear hM; intro gb W hM; first | (simp only [List.nil_append] at hM) | (simp only [List.cons_append, List.nil_append] at hM))
      | ((with_reducible refine at_alloc_ (T := 39) ?_); refine wpList_alloc_mem rfl 39 rfl _ zv_Bound _ rfl hM ?_; clear hM; intro gb W hM; first | (simp only [List.nil_append] at hM) | (simp only [List.cons_append, List.nil_append] at hM))
      | ((with_reducible refine at_load_ (T := 39) ?_); refine at_wanted_ (by rfl) ?_; first | (refine wpList_loadg_mem (by go_simp) 39 _ rfl 0 _ _ _ hM rfl rfl _ Try.underlying39 rfl sz_Bound ?_) | (refine wpList_loadg_mem (by go_simp) 39 _ rfl 1 _ _ _ hM rfl rfl _ Try.underlying39 rfl sz_Bound ?_) | (refine wpList_loadg_mem (by go_simp) 39 _ rfl 2 _ _ _ hM rfl rfl _ Try.underlying39 rfl sz_Bound ?_))
      | ((with_reducible refine at_store_ (T := 39) ?_); first | (refine wpList_store_mem rfl 39 _ _ rfl 0 _ _ _ _ hM rfl rfl rfl rfl sz_Bound rfl ?_; clear hM; intro W hM; simp only [List.set_cons_zero] at hM) | (refine wpList_store_mem rfl 39 _ _ rfl 1 _ _ _ _ hM rfl rfl rfl rfl sz_Bound rfl ?_; clear hM; intro W hM; simp only [List.set_cons_succ, List.set_cons_zero] at hM) | (refine wpList_store_mem rfl 39 _ _ rfl 2 _ _ _ _ hM rfl rfl rfl rfl sz_Bound rfl ?_; clear hM; intro W hM; simp only [List.set_cons_succ, List.set_cons_zero] at hM)))
    go_ret
    exact ⟨_, rfl, hM.take_ 2⟩
  · rw [if_pos rfl] at r1 r3
    rw [r3] at HK
    cases cl
    · rw [if_neg (by simp)] at r1
      by_cases h32 : l.length = 32
      · rw [if_pos h32] at r1
        rw [if_neg (by simp [h32])] at r2
        rw [r1, r2]
        clear r1 r2 r3
        have hl' : ((l.length : Int) == 32) = true := by simp; omega
        clear h32
        go_enter Try.func18, Try.ntmps18
        go_wp2_with (first
          | go_skip
          | (go_at_call 29; go_must (refine (HK.out _).mono ?_; rintro e W ⟨rfl, hb⟩; replace hM := hM.kept hb; clear hb))
          | (go_at_call 30; go_must (refine (HCL.out _ (hM.at_ 0 rfl) (hM.toRd 1 rfl)).mono ?_; rintro e W ⟨rfl, hb⟩; replace hM := hM.kept hb; clear hb))
          | ((with_reducible refine at_box_ ?_); refine wpList_box_mem rfl _ _ rfl _ rfl hM ?_; clear hM; intro gb W hM; first | (simp only [List.nil_append] at hM) | (simp only [List.cons_append, List.nil_append] at hM))
          | ((with_reducible refine at_alloc_ (T := 39) ?_); refine wpList_alloc_mem rfl 39 rfl _ zv_Bound _ rfl hM ?_; clear hM; intro gb W hM; first | (simp only [List.nil_append] at hM) | (simp only [List.cons_append, List.nil_append] at hM))
          | ((with_reducible refine at_load_ (T := 39) ?_); refine at_wanted_ (by rfl) ?_; first | (refine wpList_loadg_mem (by go_simp) 39 _ rfl 0 _ _ _ hM rfl rfl _ Try.underlying39 rfl sz_Bound ?_) | (refine wpList_loadg_mem (by go_simp) 39 _ rfl 1 _ _ _ hM rfl rfl _ Try.underlying39 rfl sz_Bound ?_) | (refine wpList_loadg_mem (by go_simp) 39 _ rfl 2 _ _ _ hM rfl rfl _ Try.underlying39 rfl sz_Bound ?_))
          | ((with_reducible refine at_store_ (T := 39) ?_); first | (refine wpList_store_mem rfl 39 _ _ rfl 0 _ _ _ _ hM rfl rfl rfl rfl sz_Bound rfl ?_; clear hM; intro W hM; simp only [List.set_cons_zero] at hM) | (refine wpList_store_mem rfl 39 _ _ rfl 1 _ _ _ _ hM rfl rfl rfl rfl sz_Bound rfl ?_; clear hM; intro W hM; simp only [List.set_cons_succ, List.set_cons_zero] at hM) | (refine wpList_store_mem rfl 39 _ _ rfl 2 _ _ _ _ hM rfl rfl rfl rfl sz_Bound rfl ?_; clear hM; intro W hM; simp only [List.set_cons_succ, List.set_cons_zero] at hM))
          | ((with_reducible refine at_load_ ?_); refine at_wanted_ (by rfl) ?_; first | (refine wpList_loadf_mem (by go_simp) _ _ rfl (by kernel_rfl) 0 _ _ _ _ _ hM rfl rfl (by first | rfl | assumption) ?_) | (refine wpList_loadf_mem (by go_simp) _ _ rfl (by kernel_rfl) 1 _ _ _ _ _ hM rfl rfl (by first | rfl | assumption) ?_) | (refine wpList_loadf_mem (by go_simp) _ _ rfl (by kernel_rfl) 2 _ _ _ _ _ hM rfl rfl (by first | rfl | assumption) ?_))
          | ((with_reducible refine at_store_ ?_); first | (refine wpList_store1_mem rfl _ _ _ rfl 0 _ _ _ _ _ hM rfl rfl (by first | ((conv => lhs; whnf); done) | ((conv => lhs; whnf); rfl)) (by rfl) (by rfl) (by kernel_rfl) rfl ?_; clear hM; intro W hM; simp only [pA, List.set_cons_succ, List.set_cons_zero] at hM) | (refine wpList_store1_mem rfl _ _ _ rfl 1 _ _ _ _ _ hM rfl rfl (by first | ((conv => lhs; whnf); done) | ((conv => lhs; whnf); rfl)) (by rfl) (by rfl) (by kernel_rfl) rfl ?_; clear hM; intro W hM; simp only [pA, List.set_cons_succ, List.set_cons_zero] at hM) | (refine wpList_store1_mem rfl _ _ _ rfl 2 _ _ _ _ _ hM rfl rfl (by first | ((conv => lhs; whnf); done) | ((conv => lhs; whnf); rfl)) (by rfl) (by rfl) (by kernel_rfl) rfl ?_; clear hM; intro W hM; simp only [pA, List.set_cons_succ, List.set_cons_zero] at hM)))
        go_ret
        exact ⟨_, rfl, hM.take_ 2⟩
      · rw [if_neg h32] at r1
        rw [if_pos ⟨rfl, rfl, h32⟩] at r2
        rw [r1, r2]
        clear r1 r2 r3
        have hl' : ((l.length : Int) == 32) = false := by simp; omega
        clear h32
        go_enter Try.func18, Try.ntmps18
        go_upto_region 8 with         (first
          | go_skip
          | (go_at_call 29; go_must (refine (HK.out _).mono ?_; rintro e W ⟨rfl, hb⟩; replace hM := hM.kept hb; clear hb))
          | (go_at_call 30; go_must (refine (HCL.out _ (hM.at_ 0 rfl) (hM.toRd 1 rfl)).mono ?_; rintro e W ⟨rfl, hb⟩; replace hM := hM.kept hb; clear hb))
          | ((with_reducible refine at_box_ ?_); refine wpList_box_mem rfl _ _ rfl _ rfl hM ?_; clear hM; intro gb W hM; first | (simp only [List.nil_append] at hM) | (simp only [List.cons_append, List.nil_append] at hM))
          | ((with_reducible refine at_alloc_ (T := 39) ?_); refine wpList_alloc_mem rfl 39 rfl _ zv_Bound _ rfl hM ?_; clear hM; intro gb W hM; first | (simp only [List.nil_append] at hM) | (simp only [List.cons_append, List.nil_append] at hM))
          | ((with_reducible refine at_load_ (T := 39) ?_); refine at_wanted_ (by rfl) ?_; first | (refine wpList_loadg_mem (by go_simp) 39 _ rfl 0 _ _ _ hM rfl rfl _ Try.underlying39 rfl sz_Bound ?_) | (refine wpList_loadg_mem (by go_simp) 39 _ rfl 1 _ _ _ hM rfl rfl _ Try.underlying39 rfl sz_Bound ?_) | (refine wpList_loadg_mem (by go_simp) 39 _ rfl 2 _ _ _ hM rfl rfl _ Try.underlying39 rfl sz_Bound ?_))
          | ((with_reducible refine at_store_ (T := 39) ?_); first | (refine wpList_store_mem rfl 39 _ _ rfl 0 _ _ _ _ hM rfl rfl rfl rfl sz_Bound rfl ?_; clear hM; intro W hM; simp only [List.set_cons_zero] at hM) | (refine wpList_store_mem rfl 39 _ _ rfl 1 _ _ _ _ hM rfl rfl rfl rfl sz_Bound rfl ?_; clear hM; intro W hM; simp only [List.set_cons_succ, List.set_cons_zero] at hM) | (refine wpList_store_mem rfl 39 _ _ rfl 2 _ _ _ _ hM rfl rfl rfl rfl sz_Bound rfl ?_; clear hM; intro W hM; simp only [List.set_cons_succ, List.set_cons_zero] at hM))
          | ((with_reducible refine at_load_ ?_); refine at_wanted_ (by rfl) ?_; first | (refine wpList_loadf_mem (by go_simp) _ _ rfl (by kernel_rfl) 0 _ _ _ _ _ hM rfl rfl (by first | rfl | assumption) ?_) | (refine wpList_loadf_mem (by go_simp) _ _ rfl (by kernel_rfl) 1 _ _ _ _ _ hM rfl rfl (by first | rfl | assumption) ?_) | (refine wpList_loadf_mem (by go_simp) _ _ rfl (by kernel_rfl) 2 _ _ _ _ _ hM rfl rfl (by first | rfl | assumption) ?_))
          | ((with_reducible refine at_store_ ?_); first | (refine wpList_store1_mem rfl _ _ _ rfl 0 _ _ _ _ _ hM rfl rfl (by first | ((conv => lhs; whnf); done) | ((conv => lhs; whnf); rfl)) (by rfl) (by rfl) (by kernel_rfl) rfl ?_; clear hM; intro W hM; simp only [pA, List.set_cons_succ, List.set_cons_zero] at hM) | (refine wpList_store1_mem rfl _ _ _ rfl 1 _ _ _ _ _ hM rfl rfl (by first | ((conv => lhs; whnf); done) | ((conv => lhs; whnf); rfl)) (by rfl) (by rfl) (by kernel_rfl) rfl ?_; clear hM; intro W hM; simp only [pA, List.set_cons_succ, List.set_cons_zero] at hM) | (refine wpList_store1_mem rfl _ _ _ rfl 2 _ _ _ _ _ hM rfl rfl (by first | ((conv => lhs; whnf); done) | ((conv => lhs; whnf); rfl)) (by rfl) (by rfl) (by kernel_rfl) rfl ?_; clear hM; intro W hM; simp only [pA, List.set_cons_succ, List.set_cons_zero] at hM)))
        refine wp_region_M [0,2] [10] hM (by kernel_rfl) ?_
        clear hM
        intro wo hM
        refine wpI_takeP (i := 0) (v := ?_) rfl (by kernel_rfl) (by kernel_rfl) (by kernel_rfl) (by first | exact fun _ _ _ h => h | exact fun _ _ _ h => HQ0.out _ _ _ _ _ h) (Or.inl ⟨by rfl, ?hy⟩) ?_
        case hy => (intro W; go_simp; (try with_reducible rfl))
        simp only [Act.put, List.getElem_toArray, List.getElem_cons_succ, List.getElem_cons_zero, List.setIfInBounds_toArray, List.set_cons_zero, List.set_cons_succ]
        refine wpI_takeP (i := 1) (v := ?_) rfl (by kernel_rfl) (by kernel_rfl) (by kernel_rfl) (by first | exact fun _ _ _ h => h | exact fun _ _ _ h => HQ0.out _ _ _ _ _ h) (Or.inl ⟨by rfl, ?hy⟩) ?_
        case hy => (intro W; go_simp; (try with_reducible rfl))
        simp only [Act.put, List.getElem_toArray, List.getElem_cons_succ, List.getElem_cons_zero, List.setIfInBounds_toArray, List.set_cons_zero, List.set_cons_succ]
        refine wpI_takeP (i := 2) (v := ?_) rfl (by kernel_rfl) (by kernel_rfl) (by kernel_rfl) (by first | exact fun _ _ _ h => h | exact fun _ _ _ h => HQ0.out _ _ _ _ _ h) (Or.inl ⟨by rfl, ?hy⟩) ?_
        case hy => (intro W; go_simp; (try with_reducible rfl))
        simp only [Act.put, List.getElem_toArray, List.getElem_cons_succ, List.getElem_cons_zero, List.setIfInBounds_toArray, List.set_cons_zero, List.set_cons_succ]
        refine wpI_takeP (i := 3) (v := ?_) rfl (by kernel_rfl) (by kernel_rfl) (by kernel_rfl) (by first | exact fun _ _ _ h => h | exact fun _ _ _ h => HQ0.out _ _ _ _ _ h) (Or.inl ⟨by rfl, ?hy⟩) ?_
        case hy => (intro W; go_simp; (try with_reducible rfl))
        simp only [Act.put, List.getElem_toArray, List.getElem_cons_succ, List.getElem_cons_zero, List.setIfInBounds_toArray, List.set_cons_zero, List.set_cons_succ]
        refine wpI_take (i := 4) (v := ?_) rfl (by kernel_rfl) (by kernel_rfl) (by kernel_rfl) (by kernel_rfl) (by first | exact fun _ _ _ h => h | exact fun _ _ _ h => HQ0.out _ _ _ _ _ h) ⟨fun r hr => hM.get 0 hr, fun r hr => hM.get 2 hr, trivial⟩ (Or.inl ⟨by rfl, ?hy⟩) ?_
        case hy => (rintro W ⟨i0, i2, -⟩; have c0 := (show At W _ _ _ from i0 _ rfl).cell; have c2 := (show At W _ _ _ from i2 _ rfl).cell; (try simp only [pA, cBound] at c0 c2); go_simp; (try with_reducible rfl))
        simp only [Act.put, List.getElem_toArray, List.getElem_cons_succ, List.getElem_cons_zero, List.setIfInBounds_toArray, List.set_cons_zero, List.set_cons_succ]
        refine wpI_take (i := 5) (v := ?_) rfl (by kernel_rfl) (by kernel_rfl) (by kernel_rfl) (by kernel_rfl) (by first | exact fun _ _ _ h => h | exact fun _ _ _ h => HQ0.out _ _ _ _ _ h) ⟨fun r hr => hM.get 0 hr, fun r hr => hM.get 2 hr, trivial⟩ (Or.inl ⟨by rfl, ?hy⟩) ?_
        case hy => (rintro W ⟨i0, i2, -⟩; have c0 := (show At W _ _ _ from i0 _ rfl).cell; have c2 := (show At W _ _ _ from i2 _ rfl).cell; (try simp only [pA, cBound] at c0 c2); go_simp; (try with_reducible rfl))
        simp only [Act.put, List.getElem_toArray, List.getElem_cons_succ, List.getElem_cons_zero, List.setIfInBounds_toArray, List.set_cons_zero, List.set_cons_succ]
        refine wpI_one (i := 6) rfl (by kernel_rfl) ?_
        (try simp only [Act.put, List.getElem_toArray, List.getElem_cons_succ, List.getElem_cons_zero, List.setIfInBounds_toArray, List.set_cons_zero, List.set_cons_succ])
        go_wp2_with (first
            | go_skip
            | ((with_reducible refine at_bslice_ ?_); refine wpList_bslice_mem rfl _ 39 _ rfl Try.underlying34 _ zv_Bound _ rfl rfl sz_Bound (Nat.le_of_ble_eq_true rfl) (Nat.le_of_ble_eq_true rfl) hM ?_; clear hM; intro gb W hM; simp only [List.cons_append, List.nil_append] at hM)
            | ((with_reducible refine at_append_ ?_); refine wpList_append_row (f := cBound) rfl _ _ _ 39 rfl Try.underlying34 56 elem_Bound (by decide) 1 3 _ _ _ b hM rfl rfl rfl _ rfl rfl (one_cBound _) (by omega) (by simp only [maxLen]; omega) ?_; clear hM; intro vN W hM; simp only [List.set_cons_succ, List.set_cons_zero] at hM; obtain ⟨AN, cN, hvN⟩ := (hM.win_ 1 rfl).form; rw [List.length_append] at hvN; simp only [List.length_cons, List.length_nil, Nat.zero_add] at hvN; subst hvN)
            | ((with_reducible refine at_box_ ?_); refine wpList_box_mem rfl _ _ rfl _ rfl hM ?_; clear hM; intro gb W hM; first | (simp only [List.nil_append] at hM) | (simp only [List.cons_append, List.nil_append] at hM))
            | ((with_reducible refine at_load_ ?_); refine at_wanted_ (by rfl) ?_; first | (refine wpList_loadf_mem (by go_simp) _ _ rfl (by kernel_rfl) 0 _ _ _ _ _ hM rfl rfl (by first | rfl | assumption) ?_) | (refine wpList_loadf_mem (by go_simp) _ _ rfl (by kernel_rfl) 1 _ _ _ _ _ hM rfl rfl (by first | rfl | assumption) ?_) | (refine wpList_loadf_mem (by go_simp) _ _ rfl (by kernel_rfl) 2 _ _ _ _ _ hM rfl rfl (by first | rfl | assumption) ?_))
            | ((with_reducible refine at_store_ ?_); first | (refine wpList_store1_mem rfl _ _ _ rfl 0 _ _ _ _ _ hM rfl rfl (by first | ((conv => lhs; whnf); done) | ((conv => lhs; whnf); rfl)) (by rfl) (by rfl) (by kernel_rfl) rfl ?_; clear hM; intro W hM; simp only [pA, List.set_cons_succ, List.set_cons_zero] at hM) | (refine wpList_store1_mem rfl _ _ _ rfl 1 _ _ _ _ _ hM rfl rfl (by first | ((conv => lhs; whnf); done) | ((conv => lhs; whnf); rfl)) (by rfl) (by rfl) (by kernel_rfl) rfl ?_; clear hM; intro W hM; simp only [pA, List.set_cons_succ, List.set_cons_zero] at hM) | (refine wpList_store1_mem rfl _ _ _ rfl 2 _ _ _ _ _ hM rfl rfl (by first | ((conv => lhs; whnf); done) | ((conv => lhs; whnf); rfl)) (by rfl) (by rfl) (by kernel_rfl) rfl ?_; clear hM; intro W hM; simp only [pA, List.set_cons_succ, List.set_cons_zero] at hM)))
        refine contI_normal ⟨fun r hr => hM.get 0 hr, fun r hr => hM.get 2 hr, trivial⟩ ?_
        (try simp only [Act.put, List.getElem_toArray, List.getElem_cons_succ, List.getElem_cons_zero, List.setIfInBounds_toArray, List.set_cons_zero, List.set_cons_succ])
        refine wpI_one (i := 7) rfl (by kernel_rfl) ?_
        (try simp only [Act.put, List.getElem_toArray, List.getElem_cons_succ, List.getElem_cons_zero, List.setIfInBounds_toArray, List.set_cons_zero, List.set_cons_succ])
        go_wp2_with (first
            | go_skip
            | ((with_reducible refine at_bslice_ ?_); refine wpList_bslice_mem rfl _ 39 _ rfl Try.underlying34 _ zv_Bound _ rfl rfl sz_Bound (Nat.le_of_ble_eq_true rfl) (Nat.le_of_ble_eq_true rfl) hM ?_; clear hM; intro gb W hM; simp only [List.cons_append, List.nil_append] at hM)
            | ((with_reducible refine at_append_ ?_); refine wpList_append_row (f := cBound) rfl _ _ _ 39 rfl Try.underlying34 56 elem_Bound (by decide) 1 3 _ _ _ b hM rfl rfl rfl _ rfl rfl (one_cBound _) (by omega) (by simp only [maxLen]; omega) ?_; clear hM; intro vN W hM; simp only [List.set_cons_succ, List.set_cons_zero] at hM; obtain ⟨AN, cN, hvN⟩ := (hM.win_ 1 rfl).form; rw [List.length_append] at hvN; simp only [List.length_cons, List.length_nil, Nat.zero_add] at hvN; subst hvN)
            | ((with_reducible refine at_box_ ?_); refine wpList_box_mem rfl _ _ rfl _ rfl hM ?_; clear hM; intro gb W hM; first | (simp only [List.nil_append] at hM) | (simp only [List.cons_append, List.nil_append] at hM))
            | ((with_reducible refine at_load_ ?_); refine at_wanted_ (by rfl) ?_; first | (refine wpList_loadf_mem (by go_simp) _ _ rfl (by kernel_rfl) 0 _ _ _ _ _ hM rfl rfl (by first | rfl | assumption) ?_) | (refine wpList_loadf_mem (by go_simp) _ _ rfl (by kernel_rfl) 1 _ _ _ _ _ hM rfl rfl (by first | rfl | assumption) ?_) | (refine wpList_loadf_mem (by go_simp) _ _ rfl (by kernel_rfl) 2 _ _ _ _ _ hM rfl rfl (by first | rfl | assumption) ?_))
            | ((with_reducible refine at_store_ ?_); first | (refine wpList_store1_mem rfl _ _ _ rfl 0 _ _ _ _ _ hM rfl rfl (by first | ((conv => lhs; whnf); done) | ((conv => lhs; whnf); rfl)) (by rfl) (by rfl) (by kernel_rfl) rfl ?_; clear hM; intro W hM; simp only [pA, List.set_cons_succ, List.set_cons_zero] at hM) | (refine wpList_store1_mem rfl _ _ _ rfl 1 _ _ _ _ _ hM rfl rfl (by first | ((conv => lhs; whnf); done) | ((conv => lhs; whnf); rfl)) (by rfl) (by rfl) (by kernel_rfl) rfl ?_; clear hM; intro W hM; simp only [pA, List.set_cons_succ, List.set_cons_zero] at hM) | (refine wpList_store1_mem rfl _ _ _ rfl 2 _ _ _ _ _ hM rfl rfl (by first | ((conv => lhs; whnf); done) | ((conv => lhs; whnf); rfl)) (by rfl) (by rfl) (by kernel_rfl) rfl ?_; clear hM; intro W hM; simp only [pA, List.set_cons_succ, List.set_cons_zero] at hM)))
        refine contI_normal ⟨fun r hr => hM.get 0 hr, fun r hr => hM.get 2 hr, trivial⟩ ?_
        (try simp only [Act.put, List.getElem_toArray, List.getElem_cons_succ, List.getElem_cons_zero, List.setIfInBounds_toArray, List.set_cons_zero, List.set_cons_succ])
        refine wpI_takeP (i := 8) (v := ?_) rfl (by kernel_rfl) (by kernel_rfl) (by kernel_rfl) (by first | exact fun _ _ _ h => h | exact fun _ _ _ h => HQ0.out _ _ _ _ _ h) (Or.inl ⟨by rfl, ?hy⟩) ?_
        case hy => (intro W; go_simp; (try with_reducible rfl))
        simp only [Act.put, List.getElem_toArray, List.getElem_cons_succ, List.getElem_cons_zero, List.setIfInBounds_toArray, List.set_cons_zero, List.set_cons_succ]
        refine wpI_takeP (i := 9) (v := ?_) rfl (by kernel_rfl) (by kernel_rfl) (by kernel_rfl) (by first | exact fun _ _ _ h => h | exact fun _ _ _ h => HQ0.out _ _ _ _ _ h) (Or.inl ⟨by rfl, ?hy⟩) ?_
        case hy => (intro W; go_simp; (try with_reducible rfl))
        simp only [Act.put, List.getElem_toArray, List.getElem_cons_succ, List.getElem_cons_zero, List.setIfInBounds_toArray, List.set_cons_zero, List.set_cons_succ]
        refine wpI_one (i := 10) rfl (by kernel_rfl) ?_
        (try simp only [Act.put, List.getElem_toArray, List.getElem_cons_succ, List.getElem_cons_zero, List.setIfInBounds_toArray, List.set_cons_zero, List.set_cons_succ])
        go_wp2_with (first
            | go_skip
            | ((with_reducible refine at_bslice_ ?_); refine wpList_bslice_mem rfl _ 39 _ rfl Try.underlying34 _ zv_Bound _ rfl rfl sz_Bound (Nat.le_of_ble_eq_true rfl) (Nat.le_of_ble_eq_true rfl) hM ?_; clear hM; intro gb W hM; simp only [List.cons_append, List.nil_append] at hM)
            | ((with_reducible refine at_append_ ?_); refine wpList_append_row (f := cBound) rfl _ _ _ 39 rfl Try.underlying34 56 elem_Bound (by decide) 1 3 _ _ _ b hM rfl rfl rfl _ rfl rfl (one_cBound _) (by omega) (by simp only [maxLen]; omega) ?_; clear hM; intro vN W hM; simp only [List.set_cons_succ, List.set_cons_zero] at hM; obtain ⟨AN, cN, hvN⟩ := (hM.win_ 1 rfl).form; rw [List.length_append] at hvN; simp only [List.length_cons, List.length_nil, Nat.zero_add] at hvN; subst hvN)
            | ((with_reducible refine at_box_ ?_); refine wpList_box_mem rfl _ _ rfl _ rfl hM ?_; clear hM; intro gb W hM; first | (simp only [List.nil_append] at hM) | (simp only [List.cons_append, List.nil_append] at hM))
            | ((with_reducible refine at_load_ ?_); refine at_wanted_ (by rfl) ?_; first | (refine wpList_loadf_mem (by go_simp) _ _ rfl (by kernel_rfl) 0 _ _ _ _ _ hM rfl rfl (by first | rfl | assumption) ?_) | (refine wpList_loadf_mem (by go_simp) _ _ rfl (by kernel_rfl) 1 _ _ _ _ _ hM rfl rfl (by first | rfl | assumption) ?_) | (refine wpList_loadf_mem (by go_simp) _ _ rfl (by kernel_rfl) 2 _ _ _ _ _ hM rfl rfl (by first | rfl | assumption) ?_))
            | ((with_reducible refine at_store_ ?_); first | (refine wpList_store1_mem rfl _ _ _ rfl 0 _ _ _ _ _ hM rfl rfl (by first | ((conv => lhs; whnf); done) | ((conv => lhs; whnf); rfl)) (by rfl) (by rfl) (by kernel_rfl) rfl ?_; clear hM; intro W hM; simp only [pA, List.set_cons_succ, List.set_cons_zero] at hM) | (refine wpList_store1_mem rfl _ _ _ rfl 1 _ _ _ _ _ hM rfl rfl (by first | ((conv => lhs; whnf); done) | ((conv => lhs; whnf); rfl)) (by rfl) (by rfl) (by kernel_rfl) rfl ?_; clear hM; intro W hM; simp only [pA, List.set_cons_succ, List.set_cons_zero] at hM) | (refine wpList_store1_mem rfl _ _ _ rfl 2 _ _ _ _ _ hM rfl rfl (by first | ((conv => lhs; whnf); done) | ((conv => lhs; whnf); rfl)) (by rfl) (by rfl) (by kernel_rfl) rfl ?_; clear hM; intro W hM; simp only [pA, List.set_cons_succ, List.set_cons_zero] at hM)))
        refine contI_late (by decide) ?_
        (try simp only [Act.put, List.getElem_toArray, List.getElem_cons_succ, List.getElem_cons_zero, List.setIfInBounds_toArray, List.set_cons_zero, List.set_cons_succ])
        refine wpI_done (by kernel_rfl) ?_ _
        (try simp only [Act.put, List.getElem_toArray, List.getElem_cons_succ, List.getElem_cons_zero, List.setIfInBounds_toArray, List.set_cons_zero, List.set_cons_succ])
        go_wp2_with fail
        go_ret
        exact ⟨_, rfl, hM.take_ 2⟩
    · rw [if_pos rfl] at r1
      rw [if_neg (by simp)] at r2
      rw [r1, r2]
      clear r1 r2 r3
      go_enter Try.func18, Try.ntmps18
      go_wp2_with (first
        | go_skip
        | (go_at_call 29; go_must (refine (HK.out _).mono ?_; rintro e W ⟨rfl, hb⟩; replace hM := hM.kept hb; clear hb))
        | (go_at_call 30; go_must (refine (HCL.out _ (hM.at_ 0 rfl) (hM.toRd 1 rfl)).mono ?_; rintro e W ⟨rfl, hb⟩; replace hM := hM.kept hb; clear hb))
        | ((with_reducible refine at_box_ ?_); refine wpList_box_mem rfl _ _ rfl _ rfl hM ?_; clear hM; intro gb W hM; first | (simp only [List.nil_append] at hM) | (simp only [List.cons_append, List.nil_append] at hM))
        | ((with_reducible refine at_alloc_ (T := 39) ?_); refine wpList_alloc_mem rfl 39 rfl _ zv_Bound _ rfl hM ?_; clear hM; intro gb W hM; first | (simp only [List.nil_append] at hM) | (simp only [List.cons_append, List.nil_append] at hM))
        | ((with_reducible refine at_load_ (T := 39) ?_); refine at_wanted_ (by rfl) ?_; first | (refine wpList_loadg_mem (by go_simp) 39 _ rfl 0 _ _ _ hM rfl rfl _ Try.underlying39 rfl sz_Bound ?_) | (refine wpList_loadg_mem (by go_simp) 39 _ rfl 1 _ _ _ hM rfl rfl _ Try.underlying39 rfl sz_Bound ?_) | (refine wpList_loadg_mem (by go_simp) 39 _ rfl 2 _ _ _ hM rfl rfl _ Try.underlying39 rfl sz_Bound ?_))
        | ((with_reducible refine at_store_ (T := 39) ?_); first | (refine wpList_store_mem rfl 39 _ _ rfl 0 _ _ _ _ hM rfl rfl rfl rfl sz_Bound rfl ?_; clear hM; intro W hM; simp only [List.set_cons_zero] at hM) | (refine wpList_store_mem rfl 39 _ _ rfl 1 _ _ _ _ hM rfl rfl rfl rfl sz_Bound rfl ?_; clear hM; intro W hM; simp only [List.set_cons_succ, List.set_cons_zero] at hM) | (refine wpList_store_mem rfl 39 _ _ rfl 2 _ _ _ _ hM rfl rfl rfl rfl sz_Bound rfl ?_; clear hM; intro W hM; simp only [List.set_cons_succ, List.set_cons_zero] at hM)))
      go_ret
      exact ⟨_, rfl, hM.take_ 2⟩
end Go.Proofs.Ytppjmhkecogbcaa
