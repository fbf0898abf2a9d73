/- ports.Table: Pick. -/
import Derived.Test.YtppjmhkecogbcaaBndH
import Derived.Deep.CutBlock
namespace Go.Proofs.Ytppjmhkecogbcaa
open Go.RowKit Go.Lib
set_option linter.unusedVariables false
set_option linter.unusedSimpArgs false

theorem p_hand {E : Nat → Prop} {w W : World} {g : Nat} {v : Value} {l : List KBound} (m : List Res) (hM : MemX E w W (pL g v l ++ m)) : PPre W W g v l v l := hM.hand
theorem p_put {E : Nat → Prop} {w W W' : World} {g : Nat} {v v' : Value} {l l' : List KBound} (m : List Res) (hM : MemX E w W (pL g v l ++ m)) (h : PPre W W' g v l v' l') : MemX E w W' (pL g v' l' ++ m) := hM.back h
theorem pBind_no {l : List KBound} {b : KBound} (h : pBindE l b ≠ 0) : pBind l b = l := by
  unfold pBindE at h
  unfold pBind
  refine if_neg fun ⟨h1, h2, h3⟩ => h ?_
  rw [if_pos h1, if_neg (by simp [h2]), if_neg h3]
theorem pBind_yes {l : List KBound} {b : KBound} (h : pBindE l b = 0) : pBind l b = l ++ [b] ∧ pOk b = true ∧ pClashes l b = false ∧ l.length ≠ 32 := by
  unfold pBindE at h
  by_cases h1 : pOk b = true
  · rw [if_pos h1] at h
    by_cases h2 : pClashes l b = true
    · rw [if_pos h2] at h; cases h
    · rw [if_neg h2] at h
      by_cases h3 : l.length = 32
      · rw [if_pos h3] at h; cases h
      · have h2' : pClashes l b = false := by simpa using h2
        refine ⟨?_, h1, h2', h3⟩
        unfold pBind
        rw [if_pos ⟨h1, h2', h3⟩]
  · rw [if_neg h1] at h; cases h
def PickRel (l : List KBound) (b : KBound) (p e : Int) (l' : List KBound) : Prop := (e ≠ 0 ∧ p = 0 ∧ l' = l) ∨ (e = 0 ∧ 49152 ≤ p ∧ p < 49216 ∧ l' = l ++ [{ b with lp := p }] ∧ pBindE l { b with lp := p } = 0)
set_option maxRecDepth 100000 in
set_option maxHeartbeats 8000000 in
theorem Pick_any (g : Nat) (v : Value) (l : List KBound) (b : KBound) (seed : Int) (w : World) (hM : PPre w w g v l v l) (hI : BInv l) (hs : -9223372036854775808 ≤ seed) (hs' : seed ≤ 9223372036854775807) :
    Calls Try.prog 17 #[.pointer (some ⟨g, 0, none⟩), .agg (cBound b).toArray, .int .i64 seed] w fun x w' => ∃ p e v' l', x = .returned (.tuple #[.int .i64 p, .int .i64 e]) ∧ PPre w w' g v l v' l' ∧ PickRel l b p e l' := by
  have hl := hI.len
  have HK := Lib.hid (fun W => pcheck_any { b with lp := 49152 } W)
  have m1 := Int.tmod_lt_of_pos seed (show (0 : Int) < 64 by decide)
  have m2 := Int.lt_tmod_of_pos seed (show (0 : Int) < 64 by decide)
  have HI := Lib.hid hI
  clear hI
  obtain ⟨A, cap, rfl⟩ := (hM.win_ 1 rfl).form
  by_cases hk : pCheck { b with lp := 49152 } = 0
  · rw [hk] at HK
    clear hk
    go_enter Try.func17, Try.ntmps17
    go_upto_region 2 with         (first
          | go_skip
          | ((with_reducible refine at_box_ ?_); refine wpList_box_mem rfl _ _ rfl _ rfl hM ?_; clear hM; intro gb W hM; first | (simp only [List.nil_append] at hM) | (simp only [List.cons_append, List.nil_append] at hM))
          | ((with_reducible refine at_alloc_ (T := 39) ?_); refine wpList_alloc_mem rfl 39 rfl _ zv_Bound _ rfl hM ?_; clear hM; intro gb W hM; first | (simp only [List.nil_append] at hM) | (simp only [List.cons_append, List.nil_append] at hM))
          | ((with_reducible refine at_load_ (T := 39) ?_); refine at_wanted_ (by rfl) ?_; first | (refine wpList_loadg_mem (by go_simp) 39 _ rfl 0 _ _ _ hM rfl rfl _ Try.underlying39 rfl sz_Bound ?_) | (refine wpList_loadg_mem (by go_simp) 39 _ rfl 1 _ _ _ hM rfl rfl _ Try.underlying39 rfl sz_Bound ?_) | (refine wpList_loadg_mem (by go_simp) 39 _ rfl 2 _ _ _ hM rfl rfl _ Try.underlying39 rfl sz_Bound ?_))
          | ((with_reducible refine at_store_ (T := 39) ?_); first | (refine wpList_store_mem rfl 39 _ _ rfl 0 _ _ _ _ hM rfl rfl rfl rfl sz_Bound rfl ?_; clear hM; intro W hM; simp only [List.set_cons_zero] at hM) | (refine wpList_store_mem rfl 39 _ _ rfl 1 _ _ _ _ hM rfl rfl rfl rfl sz_Bound rfl ?_; clear hM; intro W hM; simp only [List.set_cons_succ, List.set_cons_zero] at hM) | (refine wpList_store_mem rfl 39 _ _ rfl 2 _ _ _ _ hM rfl rfl rfl rfl sz_Bound rfl ?_; clear hM; intro W hM; simp only [List.set_cons_succ, List.set_cons_zero] at hM))
          | ((with_reducible refine at_load_ ?_); refine at_wanted_ (by rfl) ?_; first | (refine wpList_loadf_mem (by go_simp) _ _ rfl (by kernel_rfl) 0 _ _ _ _ _ hM rfl rfl (by first | rfl | assumption) ?_) | (refine wpList_loadf_mem (by go_simp) _ _ rfl (by kernel_rfl) 1 _ _ _ _ _ hM rfl rfl (by first | rfl | assumption) ?_) | (refine wpList_loadf_mem (by go_simp) _ _ rfl (by kernel_rfl) 2 _ _ _ _ _ hM rfl rfl (by first | rfl | assumption) ?_))
          | ((with_reducible refine at_store_ ?_); first | (refine wpList_store1_mem rfl _ _ _ rfl 0 _ _ _ _ _ hM rfl rfl (by first | ((conv => lhs; whnf); done) | ((conv => lhs; whnf); rfl)) (by rfl) (by rfl) (by kernel_rfl) rfl ?_; clear hM; intro W hM; simp only [pA, cBound, List.set_cons_succ, List.set_cons_zero] at hM) | (refine wpList_store1_mem rfl _ _ _ rfl 1 _ _ _ _ _ hM rfl rfl (by first | ((conv => lhs; whnf); done) | ((conv => lhs; whnf); rfl)) (by rfl) (by rfl) (by kernel_rfl) rfl ?_; clear hM; intro W hM; simp only [pA, cBound, List.set_cons_succ, List.set_cons_zero] at hM) | (refine wpList_store1_mem rfl _ _ _ rfl 2 _ _ _ _ _ hM rfl rfl (by first | ((conv => lhs; whnf); done) | ((conv => lhs; whnf); rfl)) (by rfl) (by rfl) (by kernel_rfl) rfl ?_; clear hM; intro W hM; simp only [pA, cBound, List.set_cons_succ, List.set_cons_zero] at hM)))
    replace hM : MemX _ w W [pA g (.slice A l.length cap), pW (.slice A l.length cap) l, atR gb 39 (cBound { b with lp := 49152 })] := hM
    go_upto_region 6 with         (first
          | go_skip
          | (go_at_call 29; go_must (refine (HK.out _).mono ?_; rintro e W ⟨rfl, hb⟩; replace hM := hM.kept hb; clear hb))
          | ((with_reducible refine at_box_ ?_); refine wpList_box_mem rfl _ _ rfl _ rfl hM ?_; clear hM; intro gb W hM; first | (simp only [List.nil_append] at hM) | (simp only [List.cons_append, List.nil_append] at hM))
          | ((with_reducible refine at_alloc_ (T := 39) ?_); refine wpList_alloc_mem rfl 39 rfl _ zv_Bound _ rfl hM ?_; clear hM; intro gb W hM; first | (simp only [List.nil_append] at hM) | (simp only [List.cons_append, List.nil_append] at hM))
          | ((with_reducible refine at_load_ (T := 39) ?_); refine at_wanted_ (by rfl) ?_; first | (refine wpList_loadg_mem (by go_simp) 39 _ rfl 0 _ _ _ hM rfl rfl _ Try.underlying39 rfl sz_Bound ?_) | (refine wpList_loadg_mem (by go_simp) 39 _ rfl 1 _ _ _ hM rfl rfl _ Try.underlying39 rfl sz_Bound ?_) | (refine wpList_loadg_mem (by go_simp) 39 _ rfl 2 _ _ _ hM rfl rfl _ Try.underlying39 rfl sz_Bound ?_))
          | ((with_reducible refine at_store_ (T := 39) ?_); first | (refine wpList_store_mem rfl 39 _ _ rfl 0 _ _ _ _ hM rfl rfl rfl rfl sz_Bound rfl ?_; clear hM; intro W hM; simp only [List.set_cons_zero] at hM) | (refine wpList_store_mem rfl 39 _ _ rfl 1 _ _ _ _ hM rfl rfl rfl rfl sz_Bound rfl ?_; clear hM; intro W hM; simp only [List.set_cons_succ, List.set_cons_zero] at hM) | (refine wpList_store_mem rfl 39 _ _ rfl 2 _ _ _ _ hM rfl rfl rfl rfl sz_Bound rfl ?_; clear hM; intro W hM; simp only [List.set_cons_succ, List.set_cons_zero] at hM)))
    generalize seed.tmod 64 = f at *
    go_upto_if 22 with (fail)
    go_cut [9] (fun f9 W => ∃ f2 : Int, f9 = .int .i64 f2 ∧ 0 ≤ f2 ∧ f2 < 64 ∧ MemX (blkE (pL g (.slice A l.length cap) l)) w W [pA g (.slice A l.length cap), pW (.slice A l.length cap) l, atR gb 39 (cBound { b with lp := 49152 })])
    case first =>
      by_cases hf : f < 0
      · go_wp2_with fail
        go_meet
        case rel => exact ⟨f + 64, by go_num, by omega, by omega, hM⟩
      · go_wp2_with fail
        go_meet
        case rel => exact ⟨f, rfl, by omega, by omega, hM⟩
    case rest =>
      clear hM m1 m2
      obtain ⟨f2, rfl, f0, f64, hM⟩ := hcut
      go_wp2_with fail
      go_loopg [25] 64 (fun gh i wr => ∃ (k : Nat) (x : Int), gh = 64 - k ∧ k ≤ 64 ∧ i = .int .i64 k ∧ MemX (blkE (pL g (.slice A l.length cap) l)) w wr [pA g (.slice A l.length cap), pW (.slice A l.length cap) l, atR gb 39 (cBound { b with lp := x })])
      case atStart => exact ⟨0, 49152, by omega, by omega, rfl, hM⟩
      case round =>
        clear hM
        obtain ⟨k, x, hgk, hk, rfl, hM⟩ := hrel
        have HGK := Lib.hid hgk
        clear hgk
        by_cases hlt : k < 64
        · have n1 : 0 ≤ (f2 + (k : Int)) % 64 := by omega
          have n2 : (f2 + (k : Int)) % 64 < 64 := by omega
          go_upto_region 12 with         (first
          | go_skip
          | ((with_reducible refine at_box_ ?_); refine wpList_box_mem rfl _ _ rfl _ rfl hM ?_; clear hM; intro gb W hM; first | (simp only [List.nil_append] at hM) | (simp only [List.cons_append, List.nil_append] at hM))
          | ((with_reducible refine at_alloc_ (T := 39) ?_); refine wpList_alloc_mem rfl 39 rfl _ zv_Bound _ rfl hM ?_; clear hM; intro gb W hM; first | (simp only [List.nil_append] at hM) | (simp only [List.cons_append, List.nil_append] at hM))
          | ((with_reducible refine at_load_ (T := 39) ?_); refine at_wanted_ (by rfl) ?_; first | (refine wpList_loadg_mem (by go_simp) 39 _ rfl 0 _ _ _ hM rfl rfl _ Try.underlying39 rfl sz_Bound ?_) | (refine wpList_loadg_mem (by go_simp) 39 _ rfl 1 _ _ _ hM rfl rfl _ Try.underlying39 rfl sz_Bound ?_) | (refine wpList_loadg_mem (by go_simp) 39 _ rfl 2 _ _ _ hM rfl rfl _ Try.underlying39 rfl sz_Bound ?_))
          | ((with_reducible refine at_store_ (T := 39) ?_); first | (refine wpList_store_mem rfl 39 _ _ rfl 0 _ _ _ _ hM rfl rfl rfl rfl sz_Bound rfl ?_; clear hM; intro W hM; simp only [List.set_cons_zero] at hM) | (refine wpList_store_mem rfl 39 _ _ rfl 1 _ _ _ _ hM rfl rfl rfl rfl sz_Bound rfl ?_; clear hM; intro W hM; simp only [List.set_cons_succ, List.set_cons_zero] at hM) | (refine wpList_store_mem rfl 39 _ _ rfl 2 _ _ _ _ hM rfl rfl rfl rfl sz_Bound rfl ?_; clear hM; intro W hM; simp only [List.set_cons_succ, List.set_cons_zero] at hM))
          | ((with_reducible refine at_load_ ?_); refine at_wanted_ (by rfl) ?_; first | (refine wpList_loadf_mem (by go_simp) _ _ rfl (by kernel_rfl) 0 _ _ _ _ _ hM rfl rfl (by first | rfl | assumption) ?_) | (refine wpList_loadf_mem (by go_simp) _ _ rfl (by kernel_rfl) 1 _ _ _ _ _ hM rfl rfl (by first | rfl | assumption) ?_) | (refine wpList_loadf_mem (by go_simp) _ _ rfl (by kernel_rfl) 2 _ _ _ _ _ hM rfl rfl (by first | rfl | assumption) ?_))
          | ((with_reducible refine at_store_ ?_); first | (refine wpList_store1_mem rfl _ _ _ rfl 0 _ _ _ _ _ hM rfl rfl (by first | ((conv => lhs; whnf); done) | ((conv => lhs; whnf); rfl)) (by rfl) (by rfl) (by kernel_rfl) rfl ?_; clear hM; intro W hM; simp only [pA, cBound, List.set_cons_succ, List.set_cons_zero] at hM) | (refine wpList_store1_mem rfl _ _ _ rfl 1 _ _ _ _ _ hM rfl rfl (by first | ((conv => lhs; whnf); done) | ((conv => lhs; whnf); rfl)) (by rfl) (by rfl) (by kernel_rfl) rfl ?_; clear hM; intro W hM; simp only [pA, cBound, List.set_cons_succ, List.set_cons_zero] at hM) | (refine wpList_store1_mem rfl _ _ _ rfl 2 _ _ _ _ _ hM rfl rfl (by first | ((conv => lhs; whnf); done) | ((conv => lhs; whnf); rfl)) (by rfl) (by rfl) (by kernel_rfl) rfl ?_; clear hM; intro W hM; simp only [pA, cBound, List.set_cons_succ, List.set_cons_zero] at hM)))
          generalize (f2 + (k : Int)) % 64 = m at *
          simp only [Act.put]
          replace hM : MemX _ w W [pA g (.slice A l.length cap), pW (.slice A l.length cap) l, atR gb 39 (cBound { b with lp := 49152 + m })] := hM
          have HC := Lib.hid (fun W hA hR => clashes_any g (.slice A l.length cap) l { b with lp := 49152 + m } W hA hR (by omega))
          cases hc : pClashes l { b with lp := 49152 + m }
          · rw [hc] at HC
            have HBD := Lib.hid (fun W h => Bind_any g (.slice A l.length cap) l { b with lp := 49152 + m } W h HI.out)
            clear hc
            by_cases hE : pBindE l { b with lp := 49152 + m } = 0
            · have HY := Lib.hid (pBind_yes hE)
              have HE := Lib.hid hE
              rw [hE, HY.out.1] at HBD
              clear hE
              go_wp2_with (first
                | go_skip
                | (go_at_call 30; go_must (refine (HC.out _ (hM.at_ 0 rfl) (hM.toRd 1 rfl)).mono ?_; rintro e W ⟨rfl, hb⟩; replace hM := hM.kept hb; clear hb))
                | (go_at_call 18; refine (HBD.out _ (p_hand _ hM)).mono ?_; rintro x W ⟨v6, rfl, hM6⟩; replace hM := p_put _ hM hM6; clear hM6; dsimp only)
                | ((with_reducible refine at_load_ (T := 3) ?_); refine at_wanted_ (by rfl) ?_; first | (refine wpList_load1_mem (by go_simp) 3 _ rfl _ Try.underlying3 rfl 0 _ _ _ _ _ hM rfl rfl rfl ?_) | (refine wpList_load1_mem (by go_simp) 3 _ rfl _ Try.underlying3 rfl 1 _ _ _ _ _ hM rfl rfl rfl ?_) | (refine wpList_load1_mem (by go_simp) 3 _ rfl _ Try.underlying3 rfl 2 _ _ _ _ _ hM rfl rfl rfl ?_))
                | ((with_reducible refine at_load_ (T := 23) ?_); refine at_wanted_ (by rfl) ?_; first | (refine wpList_load1_mem (by go_simp) 23 _ rfl _ Try.underlying23 rfl 0 _ _ _ _ _ hM rfl rfl rfl ?_) | (refine wpList_load1_mem (by go_simp) 23 _ rfl _ Try.underlying23 rfl 1 _ _ _ _ _ hM rfl rfl rfl ?_) | (refine wpList_load1_mem (by go_simp) 23 _ rfl _ Try.underlying23 rfl 2 _ _ _ _ _ hM rfl rfl rfl ?_))
                | ((with_reducible refine at_load_ (T := 4) ?_); refine at_wanted_ (by rfl) ?_; first | (refine wpList_load1_mem (by go_simp) 4 _ rfl _ Try.underlying4 rfl 0 _ _ _ _ _ hM rfl rfl rfl ?_) | (refine wpList_load1_mem (by go_simp) 4 _ rfl _ Try.underlying4 rfl 1 _ _ _ _ _ hM rfl rfl rfl ?_) | (refine wpList_load1_mem (by go_simp) 4 _ rfl _ Try.underlying4 rfl 2 _ _ _ _ _ hM rfl rfl rfl ?_))
                | ((with_reducible refine at_box_ ?_); refine wpList_box_mem rfl _ _ rfl _ rfl hM ?_; clear hM; intro gb W hM; first | (simp only [List.nil_append] at hM) | (simp only [List.cons_append, List.nil_append] at hM))
                | ((with_reducible refine at_alloc_ (T := 39) ?_); refine wpList_alloc_mem rfl 39 rfl _ zv_Bound _ rfl hM ?_; clear hM; intro gb W hM; first | (simp only [List.nil_append] at hM) | (simp only [List.cons_append, List.nil_append] at hM))
                | ((with_reducible refine at_load_ (T := 39) ?_); refine at_wanted_ (by rfl) ?_; first | (refine wpList_loadg_mem (by go_simp) 39 _ rfl 0 _ _ _ hM rfl rfl _ Try.underlying39 rfl sz_Bound ?_) | (refine wpList_loadg_mem (by go_simp) 39 _ rfl 1 _ _ _ hM rfl rfl _ Try.underlying39 rfl sz_Bound ?_) | (refine wpList_loadg_mem (by go_simp) 39 _ rfl 2 _ _ _ hM rfl rfl _ Try.underlying39 rfl sz_Bound ?_))
                | ((with_reducible refine at_store_ (T := 39) ?_); first | (refine wpList_store_mem rfl 39 _ _ rfl 0 _ _ _ _ hM rfl rfl rfl rfl sz_Bound rfl ?_; clear hM; intro W hM; simp only [List.set_cons_zero] at hM) | (refine wpList_store_mem rfl 39 _ _ rfl 1 _ _ _ _ hM rfl rfl rfl rfl sz_Bound rfl ?_; clear hM; intro W hM; simp only [List.set_cons_succ, List.set_cons_zero] at hM) | (refine wpList_store_mem rfl 39 _ _ rfl 2 _ _ _ _ hM rfl rfl rfl rfl sz_Bound rfl ?_; clear hM; intro W hM; simp only [List.set_cons_succ, List.set_cons_zero] at hM))
                | ((with_reducible refine at_alloc_ (T := 39) ?_); refine wpList_alloc_mem rfl 39 rfl _ zv_Bound _ rfl hM ?_; clear hM; intro gb W hM; first | (simp only [List.nil_append] at hM) | (simp only [List.cons_append, List.nil_append] at hM))
                | ((with_reducible refine at_load_ (T := 39) ?_); refine at_wanted_ (by rfl) ?_; first | (refine wpList_loadg_mem (by go_simp) 39 _ rfl 0 _ _ _ hM rfl rfl _ Try.underlying39 rfl sz_Bound ?_) | (refine wpList_loadg_mem (by go_simp) 39 _ rfl 1 _ _ _ hM rfl rfl _ Try.underlying39 rfl sz_Bound ?_) | (refine wpList_loadg_mem (by go_simp) 39 _ rfl 2 _ _ _ hM rfl rfl _ Try.underlying39 rfl sz_Bound ?_))
                | ((with_reducible refine at_store_ (T := 39) ?_); first | (refine wpList_store_mem rfl 39 _ _ rfl 0 _ _ _ _ hM rfl rfl rfl rfl sz_Bound rfl ?_; clear hM; intro W hM; simp only [List.set_cons_zero] at hM) | (refine wpList_store_mem rfl 39 _ _ rfl 1 _ _ _ _ hM rfl rfl rfl rfl sz_Bound rfl ?_; clear hM; intro W hM; simp only [List.set_cons_succ, List.set_cons_zero] at hM) | (refine wpList_store_mem rfl 39 _ _ rfl 2 _ _ _ _ hM rfl rfl rfl rfl sz_Bound rfl ?_; clear hM; intro W hM; simp only [List.set_cons_succ, List.set_cons_zero] at hM)))
              go_ret2
              exact ⟨49152 + m, _, _, _, rfl, hM.take_ 2, .inr ⟨rfl, by omega, by omega, rfl, HE.out⟩⟩
            · have HY := Lib.hid (pBind_no hE)
              have HE := Lib.hid hE
              have hE' : (pBindE l { b with lp := 49152 + m } != 0) = true := by simpa using hE
              rw [HY.out] at HBD
              clear hE
              generalize pBindE l { b with lp := 49152 + m } = ee at *
              go_wp2_with (first
                | go_skip
                | (go_at_call 30; go_must (refine (HC.out _ (hM.at_ 0 rfl) (hM.toRd 1 rfl)).mono ?_; rintro e W ⟨rfl, hb⟩; replace hM := hM.kept hb; clear hb))
                | (go_at_call 18; refine (HBD.out _ (p_hand _ hM)).mono ?_; rintro x W ⟨v6, rfl, hM6⟩; replace hM := p_put _ hM hM6; clear hM6; dsimp only)
                | ((with_reducible refine at_load_ (T := 3) ?_); refine at_wanted_ (by rfl) ?_; first | (refine wpList_load1_mem (by go_simp) 3 _ rfl _ Try.underlying3 rfl 0 _ _ _ _ _ hM rfl rfl rfl ?_) | (refine wpList_load1_mem (by go_simp) 3 _ rfl _ Try.underlying3 rfl 1 _ _ _ _ _ hM rfl rfl rfl ?_) | (refine wpList_load1_mem (by go_simp) 3 _ rfl _ Try.underlying3 rfl 2 _ _ _ _ _ hM rfl rfl rfl ?_))
                | ((with_reducible refine at_load_ (T := 23) ?_); refine at_wanted_ (by rfl) ?_; first | (refine wpList_load1_mem (by go_simp) 23 _ rfl _ Try.underlying23 rfl 0 _ _ _ _ _ hM rfl rfl rfl ?_) | (refine wpList_load1_mem (by go_simp) 23 _ rfl _ Try.underlying23 rfl 1 _ _ _ _ _ hM rfl rfl rfl ?_) | (refine wpList_load1_mem (by go_simp) 23 _ rfl _ Try.underlying23 rfl 2 _ _ _ _ _ hM rfl rfl rfl ?_))
                | ((with_reducible refine at_load_ (T := 4) ?_); refine at_wanted_ (by rfl) ?_; first | (refine wpList_load1_mem (by go_simp) 4 _ rfl _ Try.underlying4 rfl 0 _ _ _ _ _ hM rfl rfl rfl ?_) | (refine wpList_load1_mem (by go_simp) 4 _ rfl _ Try.underlying4 rfl 1 _ _ _ _ _ hM rfl rfl rfl ?_) | (refine wpList_load1_mem (by go_simp) 4 _ rfl _ Try.underlying4 rfl 2 _ _ _ _ _ hM rfl rfl rfl ?_))
                | ((with_reducible refine at_box_ ?_); refine wpList_box_mem rfl _ _ rfl _ rfl hM ?_; clear hM; intro gb W hM; first | (simp only [List.nil_append] at hM) | (simp only [List.cons_append, List.nil_append] at hM))
                | ((with_reducible refine at_alloc_ (T := 39) ?_); refine wpList_alloc_mem rfl 39 rfl _ zv_Bound _ rfl hM ?_; clear hM; intro gb W hM; first | (simp only [List.nil_append] at hM) | (simp only [List.cons_append, List.nil_append] at hM))
                | ((with_reducible refine at_load_ (T := 39) ?_); refine at_wanted_ (by rfl) ?_; first | (refine wpList_loadg_mem (by go_simp) 39 _ rfl 0 _ _ _ hM rfl rfl _ Try.underlying39 rfl sz_Bound ?_) | (refine wpList_loadg_mem (by go_simp) 39 _ rfl 1 _ _ _ hM rfl rfl _ Try.underlying39 rfl sz_Bound ?_) | (refine wpList_loadg_mem (by go_simp) 39 _ rfl 2 _ _ _ hM rfl rfl _ Try.underlying39 rfl sz_Bound ?_))
                | ((with_reducible refine at_store_ (T := 39) ?_); first | (refine wpList_store_mem rfl 39 _ _ rfl 0 _ _ _ _ hM rfl rfl rfl rfl sz_Bound rfl ?_; clear hM; intro W hM; simp only [List.set_cons_zero] at hM) | (refine wpList_store_mem rfl 39 _ _ rfl 1 _ _ _ _ hM rfl rfl rfl rfl sz_Bound rfl ?_; clear hM; intro W hM; simp only [List.set_cons_succ, List.set_cons_zero] at hM) | (refine wpList_store_mem rfl 39 _ _ rfl 2 _ _ _ _ hM rfl rfl rfl rfl sz_Bound rfl ?_; clear hM; intro W hM; simp only [List.set_cons_succ, List.set_cons_zero] at hM))
                | ((with_reducible refine at_alloc_ (T := 39) ?_); refine wpList_alloc_mem rfl 39 rfl _ zv_Bound _ rfl hM ?_; clear hM; intro gb W hM; first | (simp only [List.nil_append] at hM) | (simp only [List.cons_append, List.nil_append] at hM))
                | ((with_reducible refine at_load_ (T := 39) ?_); refine at_wanted_ (by rfl) ?_; first | (refine wpList_loadg_mem (by go_simp) 39 _ rfl 0 _ _ _ hM rfl rfl _ Try.underlying39 rfl sz_Bound ?_) | (refine wpList_loadg_mem (by go_simp) 39 _ rfl 1 _ _ _ hM rfl rfl _ Try.underlying39 rfl sz_Bound ?_) | (refine wpList_loadg_mem (by go_simp) 39 _ rfl 2 _ _ _ hM rfl rfl _ Try.underlying39 rfl sz_Bound ?_))
                | ((with_reducible refine at_store_ (T := 39) ?_); first | (refine wpList_store_mem rfl 39 _ _ rfl 0 _ _ _ _ hM rfl rfl rfl rfl sz_Bound rfl ?_; clear hM; intro W hM; simp only [List.set_cons_zero] at hM) | (refine wpList_store_mem rfl 39 _ _ rfl 1 _ _ _ _ hM rfl rfl rfl rfl sz_Bound rfl ?_; clear hM; intro W hM; simp only [List.set_cons_succ, List.set_cons_zero] at hM) | (refine wpList_store_mem rfl 39 _ _ rfl 2 _ _ _ _ hM rfl rfl rfl rfl sz_Bound rfl ?_; clear hM; intro W hM; simp only [List.set_cons_succ, List.set_cons_zero] at hM)))
              go_ret2
              exact ⟨_, _, _, _, rfl, hM.take_ 2, .inl ⟨HE.out, rfl, rfl⟩⟩
          · rw [hc] at HC
            clear hc
            go_wp2_with (first
              | go_skip
              | (go_at_call 30; go_must (refine (HC.out _ (hM.at_ 0 rfl) (hM.toRd 1 rfl)).mono ?_; rintro e W ⟨rfl, hb⟩; replace hM := hM.kept hb; clear hb))
              | ((with_reducible refine at_load_ (T := 3) ?_); refine at_wanted_ (by rfl) ?_; first | (refine wpList_load1_mem (by go_simp) 3 _ rfl _ Try.underlying3 rfl 0 _ _ _ _ _ hM rfl rfl rfl ?_) | (refine wpList_load1_mem (by go_simp) 3 _ rfl _ Try.underlying3 rfl 1 _ _ _ _ _ hM rfl rfl rfl ?_) | (refine wpList_load1_mem (by go_simp) 3 _ rfl _ Try.underlying3 rfl 2 _ _ _ _ _ hM rfl rfl rfl ?_))
              | ((with_reducible refine at_load_ (T := 23) ?_); refine at_wanted_ (by rfl) ?_; first | (refine wpList_load1_mem (by go_simp) 23 _ rfl _ Try.underlying23 rfl 0 _ _ _ _ _ hM rfl rfl rfl ?_) | (refine wpList_load1_mem (by go_simp) 23 _ rfl _ Try.underlying23 rfl 1 _ _ _ _ _ hM rfl rfl rfl ?_) | (refine wpList_load1_mem (by go_simp) 23 _ rfl _ Try.underlying23 rfl 2 _ _ _ _ _ hM rfl rfl rfl ?_))
              | ((with_reducible refine at_load_ (T := 4) ?_); refine at_wanted_ (by rfl) ?_; first | (refine wpList_load1_mem (by go_simp) 4 _ rfl _ Try.underlying4 rfl 0 _ _ _ _ _ hM rfl rfl rfl ?_) | (refine wpList_load1_mem (by go_simp) 4 _ rfl _ Try.underlying4 rfl 1 _ _ _ _ _ hM rfl rfl rfl ?_) | (refine wpList_load1_mem (by go_simp) 4 _ rfl _ Try.underlying4 rfl 2 _ _ _ _ _ hM rfl rfl rfl ?_))
              | ((with_reducible refine at_box_ ?_); refine wpList_box_mem rfl _ _ rfl _ rfl hM ?_; clear hM; intro gb W hM; first | (simp only [List.nil_append] at hM) | (simp only [List.cons_append, List.nil_append] at hM))
              | ((with_reducible refine at_alloc_ (T := 39) ?_); refine wpList_alloc_mem rfl 39 rfl _ zv_Bound _ rfl hM ?_; clear hM; intro gb W hM; first | (simp only [List.nil_append] at hM) | (simp only [List.cons_append, List.nil_append] at hM))
              | ((with_reducible refine at_load_ (T := 39) ?_); refine at_wanted_ (by rfl) ?_; first | (refine wpList_loadg_mem (by go_simp) 39 _ rfl 0 _ _ _ hM rfl rfl _ Try.underlying39 rfl sz_Bound ?_) | (refine wpList_loadg_mem (by go_simp) 39 _ rfl 1 _ _ _ hM rfl rfl _ Try.underlying39 rfl sz_Bound ?_) | (refine wpList_loadg_mem (by go_simp) 39 _ rfl 2 _ _ _ hM rfl rfl _ Try.underlying39 rfl sz_Bound ?_))
              | ((with_reducible refine at_store_ (T := 39) ?_); first | (refine wpList_store_mem rfl 39 _ _ rfl 0 _ _ _ _ hM rfl rfl rfl rfl sz_Bound rfl ?_; clear hM; intro W hM; simp only [List.set_cons_zero] at hM) | (refine wpList_store_mem rfl 39 _ _ rfl 1 _ _ _ _ hM rfl rfl rfl rfl sz_Bound rfl ?_; clear hM; intro W hM; simp only [List.set_cons_succ, List.set_cons_zero] at hM) | (refine wpList_store_mem rfl 39 _ _ rfl 2 _ _ _ _ hM rfl rfl rfl rfl sz_Bound rfl ?_; clear hM; intro W hM; simp only [List.set_cons_succ, List.set_cons_zero] at hM))
              | ((with_reducible refine at_alloc_ (T := 39) ?_); refine wpList_alloc_mem rfl 39 rfl _ zv_Bound _ rfl hM ?_; clear hM; intro gb W hM; first | (simp only [List.nil_append] at hM) | (simp only [List.cons_append, List.nil_append] at hM))
              | ((with_reducible refine at_load_ (T := 39) ?_); refine at_wanted_ (by rfl) ?_; first | (refine wpList_loadg_mem (by go_simp) 39 _ rfl 0 _ _ _ hM rfl rfl _ Try.underlying39 rfl sz_Bound ?_) | (refine wpList_loadg_mem (by go_simp) 39 _ rfl 1 _ _ _ hM rfl rfl _ Try.underlying39 rfl sz_Bound ?_) | (refine wpList_loadg_mem (by go_simp) 39 _ rfl 2 _ _ _ hM rfl rfl _ Try.underlying39 rfl sz_Bound ?_))
              | ((with_reducible refine at_store_ (T := 39) ?_); first | (refine wpList_store_mem rfl 39 _ _ rfl 0 _ _ _ _ hM rfl rfl rfl rfl sz_Bound rfl ?_; clear hM; intro W hM; simp only [List.set_cons_zero] at hM) | (refine wpList_store_mem rfl 39 _ _ rfl 1 _ _ _ _ hM rfl rfl rfl rfl sz_Bound rfl ?_; clear hM; intro W hM; simp only [List.set_cons_succ, List.set_cons_zero] at hM) | (refine wpList_store_mem rfl 39 _ _ rfl 2 _ _ _ _ hM rfl rfl rfl rfl sz_Bound rfl ?_; clear hM; intro W hM; simp only [List.set_cons_succ, List.set_cons_zero] at hM)))
            go_roundg (64 - (k + 1))
            case measure => have := HGK.out; omega
            case rel => exact ⟨k + 1, _, rfl, by omega, by go_num, hM⟩
        · go_wp2_with fail
          go_ret2
          exact ⟨_, _, _, _, rfl, hM.take_ 2, .inl ⟨by decide, rfl, rfl⟩⟩
  · have hk' : (pCheck { b with lp := 49152 } != 0) = true := by simpa using hk
    have HKN := Lib.hid hk
    clear hk
    generalize pCheck { b with lp := 49152 } = ck at *
    go_enter Try.func17, Try.ntmps17
    go_upto_region 2 with         (first
          | go_skip
          | ((with_reducible refine at_box_ ?_); refine wpList_box_mem rfl _ _ rfl _ rfl hM ?_; clear hM; intro gb W hM; first | (simp only [List.nil_append] at hM) | (simp only [List.cons_append, List.nil_append] at hM))
          | ((with_reducible refine at_alloc_ (T := 39) ?_); refine wpList_alloc_mem rfl 39 rfl _ zv_Bound _ rfl hM ?_; clear hM; intro gb W hM; first | (simp only [List.nil_append] at hM) | (simp only [List.cons_append, List.nil_append] at hM))
          | ((with_reducible refine at_load_ (T := 39) ?_); refine at_wanted_ (by rfl) ?_; first | (refine wpList_loadg_mem (by go_simp) 39 _ rfl 0 _ _ _ hM rfl rfl _ Try.underlying39 rfl sz_Bound ?_) | (refine wpList_loadg_mem (by go_simp) 39 _ rfl 1 _ _ _ hM rfl rfl _ Try.underlying39 rfl sz_Bound ?_) | (refine wpList_loadg_mem (by go_simp) 39 _ rfl 2 _ _ _ hM rfl rfl _ Try.underlying39 rfl sz_Bound ?_))
          | ((with_reducible refine at_store_ (T := 39) ?_); first | (refine wpList_store_mem rfl 39 _ _ rfl 0 _ _ _ _ hM rfl rfl rfl rfl sz_Bound rfl ?_; clear hM; intro W hM; simp only [List.set_cons_zero] at hM) | (refine wpList_store_mem rfl 39 _ _ rfl 1 _ _ _ _ hM rfl rfl rfl rfl sz_Bound rfl ?_; clear hM; intro W hM; simp only [List.set_cons_succ, List.set_cons_zero] at hM) | (refine wpList_store_mem rfl 39 _ _ rfl 2 _ _ _ _ hM rfl rfl rfl rfl sz_Bound rfl ?_; clear hM; intro W hM; simp only [List.set_cons_succ, List.set_cons_zero] at hM))
          | ((with_reducible refine at_load_ ?_); refine at_wanted_ (by rfl) ?_; first | (refine wpList_loadf_mem (by go_simp) _ _ rfl (by kernel_rfl) 0 _ _ _ _ _ hM rfl rfl (by first | rfl | assumption) ?_) | (refine wpList_loadf_mem (by go_simp) _ _ rfl (by kernel_rfl) 1 _ _ _ _ _ hM rfl rfl (by first | rfl | assumption) ?_) | (refine wpList_loadf_mem (by go_simp) _ _ rfl (by kernel_rfl) 2 _ _ _ _ _ hM rfl rfl (by first | rfl | assumption) ?_))
          | ((with_reducible refine at_store_ ?_); first | (refine wpList_store1_mem rfl _ _ _ rfl 0 _ _ _ _ _ hM rfl rfl (by first | ((conv => lhs; whnf); done) | ((conv => lhs; whnf); rfl)) (by rfl) (by rfl) (by kernel_rfl) rfl ?_; clear hM; intro W hM; simp only [pA, cBound, List.set_cons_succ, List.set_cons_zero] at hM) | (refine wpList_store1_mem rfl _ _ _ rfl 1 _ _ _ _ _ hM rfl rfl (by first | ((conv => lhs; whnf); done) | ((conv => lhs; whnf); rfl)) (by rfl) (by rfl) (by kernel_rfl) rfl ?_; clear hM; intro W hM; simp only [pA, cBound, List.set_cons_succ, List.set_cons_zero] at hM) | (refine wpList_store1_mem rfl _ _ _ rfl 2 _ _ _ _ _ hM rfl rfl (by first | ((conv => lhs; whnf); done) | ((conv => lhs; whnf); rfl)) (by rfl) (by rfl) (by kernel_rfl) rfl ?_; clear hM; intro W hM; simp only [pA, cBound, List.set_cons_succ, List.set_cons_zero] at hM)))
    replace hM : MemX _ w W [pA g (.slice A l.length cap), pW (.slice A l.length cap) l, atR gb 39 (cBound { b with lp := 49152 })] := hM
    go_wp2_with (first
      | go_skip
      | (go_at_call 29; go_must (refine (HK.out _).mono ?_; rintro e W ⟨rfl, hb⟩; replace hM := hM.kept hb; clear hb))
      | ((with_reducible refine at_box_ ?_); refine wpList_box_mem rfl _ _ rfl _ rfl hM ?_; clear hM; intro gb W hM; first | (simp only [List.nil_append] at hM) | (simp only [List.cons_append, List.nil_append] at hM))
      | ((with_reducible refine at_alloc_ (T := 39) ?_); refine wpList_alloc_mem rfl 39 rfl _ zv_Bound _ rfl hM ?_; clear hM; intro gb W hM; first | (simp only [List.nil_append] at hM) | (simp only [List.cons_append, List.nil_append] at hM))
      | ((with_reducible refine at_load_ (T := 39) ?_); refine at_wanted_ (by rfl) ?_; first | (refine wpList_loadg_mem (by go_simp) 39 _ rfl 0 _ _ _ hM rfl rfl _ Try.underlying39 rfl sz_Bound ?_) | (refine wpList_loadg_mem (by go_simp) 39 _ rfl 1 _ _ _ hM rfl rfl _ Try.underlying39 rfl sz_Bound ?_) | (refine wpList_loadg_mem (by go_simp) 39 _ rfl 2 _ _ _ hM rfl rfl _ Try.underlying39 rfl sz_Bound ?_))
      | ((with_reducible refine at_store_ (T := 39) ?_); first | (refine wpList_store_mem rfl 39 _ _ rfl 0 _ _ _ _ hM rfl rfl rfl rfl sz_Bound rfl ?_; clear hM; intro W hM; simp only [List.set_cons_zero] at hM) | (refine wpList_store_mem rfl 39 _ _ rfl 1 _ _ _ _ hM rfl rfl rfl rfl sz_Bound rfl ?_; clear hM; intro W hM; simp only [List.set_cons_succ, List.set_cons_zero] at hM) | (refine wpList_store_mem rfl 39 _ _ rfl 2 _ _ _ _ hM rfl rfl rfl rfl sz_Bound rfl ?_; clear hM; intro W hM; simp only [List.set_cons_succ, List.set_cons_zero] at hM)))
    go_ret2
    exact ⟨_, _, _, _, rfl, hM.take_ 2, .inl ⟨HKN.out, rfl, rfl⟩⟩
end Go.Proofs.Ytppjmhkecogbcaa
