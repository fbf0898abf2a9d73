/- ports.Table: Find. -/
import Derived.Test.YtalfdbhpaonfjaaBndI
namespace Go.Proofs.Ytalfdbhpaonfjaa
open Go.RowKit Go.Lib
set_option linter.unusedVariables false
set_option linter.unusedSimpArgs false

/-- an array of structs of its own, as a row -/
theorem MemX.rows_ {P : Program} {E : Nat → Prop} {w0 w : World} {l : List Res} {α : Type} {f : α → List Value} {size : Nat} {g : Nat} {t : TypeId} (h : MemX E w0 w l) (k : Nat) (rs : List α) (hk : l[k]? = some (atR g t (rs.flatMap f))) (hf : ∀ r, (f r).length = size) (hn : rs.length ≤ maxLen) : MemX E w0 w (l.set k (rowR size f (.slice (some ⟨g, 0, none⟩) rs.length rs.length) rs)) := by
  have hA := h.at_ k hk
  refine h.upd k hk (World.grownBy.refl _ _) (winR_stab _ _ _ _ _) ?_ (fun j hj => ?_)
  · refine ⟨flat_len hf rs, .inr ⟨g, 0, rs.length, rfl, Nat.zero_le _, hA.lt, Nat.le_refl _, hn, fun j u hj => ?_, fun j hj => by simp at hj, fun j hj => hA.free _⟩⟩
    rw [Nat.zero_add, hA.cell]; exact hj
  · have hj' : some g = some j := hj
    exact ⟨.inl hj', by have := hA.lt; cases hj'; exact this⟩
def cInt (o : Int) : List Value := [.int .i64 o]
def pCand (lc rm : KEnd) : List KBound := [⟨0, lc.a, lc.p, rm.a, rm.p, false, 0⟩, ⟨0, lc.a, lc.p, 0, 0, false, 0⟩, ⟨0, 0, lc.p, 0, 0, false, 0⟩]
theorem pEnd_ext {a b : KEnd} (h1 : a.a = b.a) (h2 : a.p = b.p) : a = b := by cases a; cases b; simp only at h1 h2; subst h1 h2; rfl
instance decEndP : DecidableEq KEnd := fun a b => decidable_of_iff (a.a = b.a ∧ a.p = b.p) ⟨fun h => pEnd_ext h.1 h.2, fun h => by rw [h]; exact ⟨rfl, rfl⟩⟩
theorem eqx_End (p q : KEnd) (x : Bool) (h : decide (p = q) = x) (W : World) : (Op.equalIn 10000 41 (.agg (cEnd p).toArray) (.agg (cEnd q).toArray)).run Try.prog W = .ok x W := by
  cases x
  · exact eqF_End p q (by simpa using h) W
  · have e : p = q := by simpa using h
    subst e
    exact eqT_End p W
abbrev cL (c : KBound) : KEnd := ⟨c.la, c.lp⟩
abbrev cR (c : KBound) : KEnd := ⟨c.ra, c.rp⟩
def pBc (l : List KBound) (pr : Int) (c : KBound) : List Int := pBest l pr (cL c) (cR c)
theorem pSel_c (pr : Int) (c b : KBound) : pSel pr (cL c) (cR c) b = (decide (b.pr = pr) && (decide (cL b = cL c) && decide (cR b = cR c))) := by
  unfold pSel
  congr 2
  · exact decide_eq_decide.2 ⟨fun h => pEnd_ext h.1 h.2, fun (h : (_ : KEnd) = _) => ⟨congrArg KEnd.a h, congrArg KEnd.p h⟩⟩
  · exact decide_eq_decide.2 ⟨fun h => pEnd_ext h.1 h.2, fun (h : (_ : KEnd) = _) => ⟨congrArg KEnd.a h, congrArg KEnd.p h⟩⟩
theorem find_hit {l : List KBound} {pr : Int} {lc rm : KEnd} {n k : Nat} {c : KBound} (hc : (pCand lc rm)[k]? = some c) (hp : ∀ j d, j < k → (pCand lc rm)[j]? = some d → pBc l pr d = []) (hn : pBc l pr c ≠ []) : pFind l pr lc rm n = (pAt (pBc l pr c) n, true) := by
  have e0 : (pCand lc rm)[0]? = some ⟨0, lc.a, lc.p, rm.a, rm.p, false, 0⟩ := rfl
  have e1 : (pCand lc rm)[1]? = some ⟨0, lc.a, lc.p, 0, 0, false, 0⟩ := rfl
  have e2 : (pCand lc rm)[2]? = some ⟨0, 0, lc.p, 0, 0, false, 0⟩ := rfl
  match k, hc, hp with
  | 0, hc, hp =>
    have := Option.some.inj (e0.symm.trans hc)
    subst this
    exact if_pos hn
  | 1, hc, hp =>
    have := Option.some.inj (e1.symm.trans hc)
    subst this
    have h0 : pBest l pr lc rm = [] := hp 0 _ (by omega) e0
    unfold pFind
    rw [if_neg (by simp [h0])]
    exact if_pos hn
  | 2, hc, hp =>
    have := Option.some.inj (e2.symm.trans hc)
    subst this
    have h0 : pBest l pr lc rm = [] := hp 0 _ (by omega) e0
    have h1 : pBest l pr lc ⟨0, 0⟩ = [] := hp 1 _ (by omega) e1
    unfold pFind
    rw [if_neg (by simp [h0]), if_neg (by simp [h1])]
    exact if_pos hn
  | k + 3, hc, hp => simp [pCand] at hc
theorem find_no {l : List KBound} {pr : Int} {lc rm : KEnd} {n : Nat} (hp : ∀ j d, j < 3 → (pCand lc rm)[j]? = some d → pBc l pr d = []) : pFind l pr lc rm n = (0, false) := by
  have h0 : pBest l pr lc rm = [] := hp 0 ⟨0, lc.a, lc.p, rm.a, rm.p, false, 0⟩ (by omega) rfl
  have h1 : pBest l pr lc ⟨0, 0⟩ = [] := hp 1 ⟨0, lc.a, lc.p, 0, 0, false, 0⟩ (by omega) rfl
  have h2 : pBest l pr ⟨0, lc.p⟩ ⟨0, 0⟩ = [] := hp 2 ⟨0, 0, lc.p, 0, 0, false, 0⟩ (by omega) rfl
  unfold pFind
  rw [if_neg (by simp [h0]), if_neg (by simp [h1]), if_neg (by simp [h2])]
theorem best_step {l : List KBound} (pr : Int) (lc rm : KEnd) (j : Nat) (b : KBound) (h : l[j]? = some b) : pBest (l.take (j + 1)) pr lc rm = pBest (l.take j) pr lc rm ++ if pSel pr lc rm b = true then [b.ow] else [] := by
  unfold pBest
  rw [List.take_add_one, h, List.filter_append, List.map_append]
  congr 1
  cases hs : pSel pr lc rm b <;> simp [hs]
theorem best_len (l : List KBound) (pr : Int) (lc rm : KEnd) (j : Nat) : (pBest (l.take j) pr lc rm).length ≤ j := by
  unfold pBest
  rw [List.length_map]
  exact Nat.le_trans (List.length_filter_le _ _) (by rw [List.length_take]; omega)
theorem one_cInt (o : Int) : ∀ u ∈ cInt o, u.oneCell' = true := by
  intro u hu
  simp only [cInt, List.mem_cons, List.not_mem_nil, or_false] at hu
  rcases hu with rfl; rfl
theorem elem_int : (Try.prog.info? 3).map (fun i => (i.size, i.bytes, i.zero.map (·.cells.size))) = some (1, 8, some 1) := by kernel_rfl
theorem zv_int : ∀ W : World, (zeroValue 3).run Try.prog W = .ok (.int .i64 0) W := fun _ => by kernel_rfl
theorem sz_int : (Try.prog.info? 3).map (·.size) = some 1 := by kernel_rfl
set_option maxRecDepth 100000 in
set_option maxHeartbeats 8000000 in
theorem Find_any (g : Nat) (v : Value) (l : List KBound) (pr : Int) (lc rm : KEnd) (n : Nat) (w : World) (hA : At w g 88 [v]) (hR : (rdR 7 cBound v l).P w) (hl : l.length ≤ 32) (hn : n < 18446744073709551616) :
    Calls Try.prog 25 #[.pointer (some ⟨g, 0, none⟩), .int .i64 pr, .agg (cEnd lc).toArray, .agg (cEnd rm).toArray, .int .u64 n] w fun x w' => x = .returned (.tuple #[.int .i64 (pFind l pr lc rm n).1, .bool (pFind l pr lc rm n).2]) ∧ Below w.heap.size w w' := by
  have hM := Mem.nil w
  have HR := Lib.hid hR
  have hc := hA.cell
  have hlt := hA.lt
  clear hA hR
  obtain ⟨la, lp⟩ := lc
  obtain ⟨ra, rp⟩ := rm
  go_enter Try.func25, Try.ntmps25
  go_upto_region 1 with         (first
          | (refine at_box_ ?_; refine wpList_box_mem rfl _ _ rfl _ rfl hM ?_; clear hM; intro gb W hM; first | (simp only [List.nil_append] at hM) | (simp only [List.cons_append, List.nil_append] at hM))
          | (refine at_alloc_ (T := 41) ?_; refine wpList_alloc_mem rfl 41 rfl _ zv_End _ rfl hM ?_; clear hM; intro gb W hM; first | (simp only [List.nil_append] at hM) | (simp only [List.cons_append, List.nil_append] at hM))
          | (refine at_load_ (T := 41) ?_; refine at_wanted_ (by go_simp) ?_; first | (refine wpList_loadg_mem (by go_simp) 41 _ rfl 0 _ _ _ hM rfl rfl _ Try.underlying41 rfl sz_End ?_) | (refine wpList_loadg_mem (by go_simp) 41 _ rfl 1 _ _ _ hM rfl rfl _ Try.underlying41 rfl sz_End ?_) | (refine wpList_loadg_mem (by go_simp) 41 _ rfl 2 _ _ _ hM rfl rfl _ Try.underlying41 rfl sz_End ?_))
          | (refine at_store_ (T := 41) ?_; first | (refine wpList_store_mem rfl 41 _ _ rfl 0 _ _ _ _ hM rfl rfl rfl rfl sz_End rfl ?_; clear hM; intro W hM; simp only [List.set_cons_zero] at hM) | (refine wpList_store_mem rfl 41 _ _ rfl 1 _ _ _ _ hM rfl rfl rfl rfl sz_End rfl ?_; clear hM; intro W hM; simp only [List.set_cons_succ, List.set_cons_zero] at hM) | (refine wpList_store_mem rfl 41 _ _ rfl 2 _ _ _ _ hM rfl rfl rfl rfl sz_End rfl ?_; clear hM; intro W hM; simp only [List.set_cons_succ, List.set_cons_zero] at hM)))
  replace hM : Mem w W [atR _ 41 [.int .u32 la, .int .i64 lp], atR gb 41 [.int .u32 ra, .int .i64 rp]] := hM
  go_upto_region 2 with         (first
          | (refine at_box_ ?_; refine wpList_box_mem rfl _ _ rfl _ rfl hM ?_; clear hM; intro gb W hM; first | (simp only [List.nil_append] at hM) | (simp only [List.cons_append, List.nil_append] at hM))
          | (refine at_alloc_ (T := 41) ?_; refine wpList_alloc_mem rfl 41 rfl _ zv_End _ rfl hM ?_; clear hM; intro gb W hM; first | (simp only [List.nil_append] at hM) | (simp only [List.cons_append, List.nil_append] at hM))
          | (refine at_load_ (T := 41) ?_; refine at_wanted_ (by go_simp) ?_; first | (refine wpList_loadg_mem (by go_simp) 41 _ rfl 0 _ _ _ hM rfl rfl _ Try.underlying41 rfl sz_End ?_) | (refine wpList_loadg_mem (by go_simp) 41 _ rfl 1 _ _ _ hM rfl rfl _ Try.underlying41 rfl sz_End ?_) | (refine wpList_loadg_mem (by go_simp) 41 _ rfl 2 _ _ _ hM rfl rfl _ Try.underlying41 rfl sz_End ?_))
          | (refine at_store_ (T := 41) ?_; first | (refine wpList_store_mem rfl 41 _ _ rfl 0 _ _ _ _ hM rfl rfl rfl rfl sz_End rfl ?_; clear hM; intro W hM; simp only [List.set_cons_zero] at hM) | (refine wpList_store_mem rfl 41 _ _ rfl 1 _ _ _ _ hM rfl rfl rfl rfl sz_End rfl ?_; clear hM; intro W hM; simp only [List.set_cons_succ, List.set_cons_zero] at hM) | (refine wpList_store_mem rfl 41 _ _ rfl 2 _ _ _ _ hM rfl rfl rfl rfl sz_End rfl ?_; clear hM; intro W hM; simp only [List.set_cons_succ, List.set_cons_zero] at hM))
          | (refine at_load_ ?_; refine at_wanted_ (by go_simp) ?_; first | (refine wpList_loadf_mem (by go_simp) _ _ rfl (by kernel_rfl) 0 _ _ _ _ _ hM rfl rfl (by first | rfl | assumption) ?_) | (refine wpList_loadf_mem (by go_simp) _ _ rfl (by kernel_rfl) 1 _ _ _ _ _ hM rfl rfl (by first | rfl | assumption) ?_) | (refine wpList_loadf_mem (by go_simp) _ _ rfl (by kernel_rfl) 2 _ _ _ _ _ hM rfl rfl (by first | rfl | assumption) ?_))
          | (refine at_store_ ?_; first | (refine wpList_store1_mem rfl _ _ _ rfl 0 _ _ _ _ _ hM rfl rfl (by first | ((conv => lhs; whnf); done) | ((conv => lhs; whnf); rfl)) (by rfl) (by rfl) (by kernel_rfl) rfl ?_; clear hM; intro W hM; simp only [List.set_cons_succ, List.set_cons_zero] at hM) | (refine wpList_store1_mem rfl _ _ _ rfl 1 _ _ _ _ _ hM rfl rfl (by first | ((conv => lhs; whnf); done) | ((conv => lhs; whnf); rfl)) (by rfl) (by rfl) (by kernel_rfl) rfl ?_; clear hM; intro W hM; simp only [List.set_cons_succ, List.set_cons_zero] at hM) | (refine wpList_store1_mem rfl _ _ _ rfl 2 _ _ _ _ _ hM rfl rfl (by first | ((conv => lhs; whnf); done) | ((conv => lhs; whnf); rfl)) (by rfl) (by rfl) (by kernel_rfl) rfl ?_; clear hM; intro W hM; simp only [List.set_cons_succ, List.set_cons_zero] at hM)))
  simp only [Act.put]
  go_wp2_with (first
    | (refine at_box_ ?_; refine wpList_box_mem rfl _ _ rfl _ rfl hM ?_; clear hM; intro gb W hM; first | (simp only [List.nil_append] at hM) | (simp only [List.cons_append, List.nil_append] at hM))
    | (refine at_alloc_ (T := 41) ?_; refine wpList_alloc_mem rfl 41 rfl _ zv_End _ rfl hM ?_; clear hM; intro gb W hM; first | (simp only [List.nil_append] at hM) | (simp only [List.cons_append, List.nil_append] at hM))
    | (refine at_load_ (T := 41) ?_; refine at_wanted_ (by go_simp) ?_; first | (refine wpList_loadg_mem (by go_simp) 41 _ rfl 0 _ _ _ hM rfl rfl _ Try.underlying41 rfl sz_End ?_) | (refine wpList_loadg_mem (by go_simp) 41 _ rfl 1 _ _ _ hM rfl rfl _ Try.underlying41 rfl sz_End ?_) | (refine wpList_loadg_mem (by go_simp) 41 _ rfl 2 _ _ _ hM rfl rfl _ Try.underlying41 rfl sz_End ?_))
    | (refine at_store_ (T := 41) ?_; first | (refine wpList_store_mem rfl 41 _ _ rfl 0 _ _ _ _ hM rfl rfl rfl rfl sz_End rfl ?_; clear hM; intro W hM; simp only [List.set_cons_zero] at hM) | (refine wpList_store_mem rfl 41 _ _ rfl 1 _ _ _ _ hM rfl rfl rfl rfl sz_End rfl ?_; clear hM; intro W hM; simp only [List.set_cons_succ, List.set_cons_zero] at hM) | (refine wpList_store_mem rfl 41 _ _ rfl 2 _ _ _ _ hM rfl rfl rfl rfl sz_End rfl ?_; clear hM; intro W hM; simp only [List.set_cons_succ, List.set_cons_zero] at hM)))
  refine wp_gen (fun W2 => Mem w W2 [rowR 7 cBound (.slice (some ⟨W.heap.size, 0, none⟩) 3 3) (pCand ⟨la, lp⟩ ⟨ra, rp⟩)]) ?hgen ?_
  case hgen =>
    have h1 := hM.push ((Below.refl _ _).alloc (Nat.le_refl _) _) (atR_stab W.heap.size 49 ((pCand ⟨la, lp⟩ ⟨ra, rp⟩).flatMap cBound)) (At.new_ W 49 ((pCand ⟨la, lp⟩ ⟨ra, rp⟩).flatMap cBound)) (fun g hg => by
      have e : W.heap.size = g := Option.some.inj hg
      subst e
      exact ⟨Nat.le_refl _, by simp⟩)
    have h2 := h1.rows_ (P := Try.prog) (f := cBound) (size := 7) 3 (pCand ⟨la, lp⟩ ⟨ra, rp⟩) rfl (fun _ => rfl) (by simp [pCand, maxLen])
    exact h2.sel1 3 rfl
  clear hM
  intro W2 hM
  generalize W.heap.size = G at *
  obtain ⟨A, cap, rfl⟩ := rdR_form HR.out
  obtain ⟨lc, hlc⟩ : ∃ lc : KEnd, lc = ⟨la, lp⟩ := ⟨_, rfl⟩
  obtain ⟨rm, hrm⟩ : ∃ rm : KEnd, rm = ⟨ra, rp⟩ := ⟨_, rfl⟩
  have HLC := Lib.hid hlc
  have HRM := Lib.hid hrm
  rw [← hlc, ← hrm] at hM
  clear hlc hrm
  go_loopg [30] 3 (fun gh i wr => ∃ k : Nat, gh = 3 - k ∧ k ≤ 3 ∧ i = .int .i64 k ∧ Mem w wr [rowR 7 cBound (.slice (some ⟨G, 0, none⟩) 3 3) (pCand lc rm)] ∧ Hid (∀ j d, j < k → (pCand lc rm)[j]? = some d → pBc l pr d = []))
  case atStart => exact ⟨0, by omega, by omega, rfl, hM, Lib.hid (fun j d h => absurd h (by omega))⟩
  case round =>
    clear hM
    obtain ⟨k, hgk, hk, rfl, hM, HP⟩ := hrel
    have HGK := Lib.hid hgk
    clear hgk
    by_cases hlt3 : k < 3
    · obtain ⟨c, hcc⟩ : ∃ c, (pCand lc rm)[k]? = some c := ⟨(pCand lc rm)[k]'hlt3, List.getElem?_eq_getElem _⟩
      have hrg := row_range (size := 7) (f := cBound) (fun _ => rfl) (hM.win_ 0 rfl) k c hcc
      rw [Nat.zero_add] at hrg
      have HC := Lib.hid hcc
      clear hcc
      go_upto_region 6 with         (first
          | (refine at_load_ (T := 49) ?_; refine wpList_load_mid rfl 49 _ rfl G (k * 7) rfl (cBound c) _ hrg Try.underlying49 rfl sz_Bound ?_)
          | (refine at_box_ ?_; refine wpList_box_mem rfl _ _ rfl _ rfl hM ?_; clear hM; intro gb W hM; first | (simp only [List.nil_append] at hM) | (simp only [List.cons_append, List.nil_append] at hM))
          | (refine at_alloc_ (T := 49) ?_; refine wpList_alloc_mem rfl 49 rfl _ zv_Bound _ rfl hM ?_; clear hM; intro gb W hM; first | (simp only [List.nil_append] at hM) | (simp only [List.cons_append, List.nil_append] at hM))
          | (refine at_load_ (T := 49) ?_; refine at_wanted_ (by go_simp) ?_; first | (refine wpList_loadg_mem (by go_simp) 49 _ rfl 0 _ _ _ hM rfl rfl _ Try.underlying49 rfl sz_Bound ?_) | (refine wpList_loadg_mem (by go_simp) 49 _ rfl 1 _ _ _ hM rfl rfl _ Try.underlying49 rfl sz_Bound ?_))
          | (refine at_store_ (T := 49) ?_; first | (refine wpList_store_mem rfl 49 _ _ rfl 0 _ _ _ _ hM rfl rfl rfl rfl sz_Bound rfl ?_; clear hM; intro W hM; simp only [List.set_cons_zero] at hM) | (refine wpList_store_mem rfl 49 _ _ rfl 1 _ _ _ _ hM rfl rfl rfl rfl sz_Bound rfl ?_; clear hM; intro W hM; simp only [List.set_cons_succ, List.set_cons_zero] at hM)))
      have hc1 := fun i => (hM.b.cell (p := ⟨g, i, none⟩) hlt).trans (hc i)
      have hlt1 : g < W.heap.size := Nat.lt_of_lt_of_le hlt hM.b.size
      have hM1 := hM.rowNil 1 cInt
      clear hM hrg
      have hM := hM1
      clear hM1
      simp only [List.cons_append, List.nil_append] at hM
      go_wp2_with fail
      go_loopg [39, 15] l.length (fun gh i bv wr => ∃ (j : Nat) (bw : Value), gh = l.length - j ∧ j ≤ l.length ∧ i = .int .i64 j ∧ bw = bv ∧ Mem w wr [rowR 7 cBound (.slice (some ⟨G, 0, none⟩) 3 3) (pCand lc rm), atR gb 49 (cBound c), rowR 1 cInt bw (pBest (l.take j) pr (cL c) (cR c))])
      case atStart => exact ⟨0, _, by omega, by omega, rfl, rfl, hM⟩
      case round =>
        clear hM
        obtain ⟨j, bw, hgj, hj, rfl, hbw, hM⟩ := hrel
        subst hbw
        have HGJ := Lib.hid hgj
        clear hgj
        have hbl := best_len l pr (cL c) (cR c) j
        by_cases hlj : j < l.length
        · obtain ⟨b, hbb⟩ : ∃ b, l[j]? = some b := ⟨l[j], List.getElem?_eq_getElem hlj⟩
          have he : l[j] = b := Option.some.inj ((List.getElem?_eq_getElem hlj).symm.trans hbb)
          obtain ⟨gB, offB, rfl, hr0, _⟩ := rdR_range (size := 7) (f := cBound) (fun _ => rfl) HR.out j hlj
          rw [he] at hr0
          have hrb : wr.rangeAt gB (offB + j * 7) (cBound b) := fun i v hi => keep_cell hM.b (hr0 i v hi)
          have hst := best_step pr (cL c) (cR c) j b hbb
          rw [pSel_c] at hst
          have HS := Lib.hid hst
          clear hst hbb he hr0 hc1
          cases h0 : decide (b.pr = pr)
          · have hs := HS.out
            rw [h0] at hs
            simp only [Bool.false_and, Bool.true_and, Bool.and_false, Bool.and_true, Bool.false_eq_true, if_false, if_true, List.append_nil] at hs
            have HS2 := Lib.hid hs
            clear hs
            have e0 : (b.pr == pr) = false := h0
            clear h0
            go_upto_region 9 with         (first
          | (refine at_load_ (T := 49) ?_; refine wpList_load_mid rfl 49 _ rfl gB (offB + j * 7) rfl (cBound b) _ hrb Try.underlying49 rfl sz_Bound ?_)
          | (refine at_box_ ?_; refine wpList_box_mem rfl _ _ rfl _ rfl hM ?_; clear hM; intro gb W hM; first | (simp only [List.nil_append] at hM) | (simp only [List.cons_append, List.nil_append] at hM))
          | (refine at_alloc_ (T := 49) ?_; refine wpList_alloc_mem rfl 49 rfl _ zv_Bound _ rfl hM ?_; clear hM; intro gb W hM; first | (simp only [List.nil_append] at hM) | (simp only [List.cons_append, List.nil_append] at hM))
          | (refine at_load_ (T := 49) ?_; refine at_wanted_ (by go_simp) ?_; first | (refine wpList_loadg_mem (by go_simp) 49 _ rfl 0 _ _ _ hM rfl rfl _ Try.underlying49 rfl sz_Bound ?_) | (refine wpList_loadg_mem (by go_simp) 49 _ rfl 1 _ _ _ hM rfl rfl _ Try.underlying49 rfl sz_Bound ?_) | (refine wpList_loadg_mem (by go_simp) 49 _ rfl 2 _ _ _ hM rfl rfl _ Try.underlying49 rfl sz_Bound ?_) | (refine wpList_loadg_mem (by go_simp) 49 _ rfl 3 _ _ _ hM rfl rfl _ Try.underlying49 rfl sz_Bound ?_))
          | (refine at_store_ (T := 49) ?_; first | (refine wpList_store_mem rfl 49 _ _ rfl 0 _ _ _ _ hM rfl rfl rfl rfl sz_Bound rfl ?_; clear hM; intro W hM; simp only [List.set_cons_zero] at hM) | (refine wpList_store_mem rfl 49 _ _ rfl 1 _ _ _ _ hM rfl rfl rfl rfl sz_Bound rfl ?_; clear hM; intro W hM; simp only [List.set_cons_succ, List.set_cons_zero] at hM) | (refine wpList_store_mem rfl 49 _ _ rfl 2 _ _ _ _ hM rfl rfl rfl rfl sz_Bound rfl ?_; clear hM; intro W hM; simp only [List.set_cons_succ, List.set_cons_zero] at hM) | (refine wpList_store_mem rfl 49 _ _ rfl 3 _ _ _ _ hM rfl rfl rfl rfl sz_Bound rfl ?_; clear hM; intro W hM; simp only [List.set_cons_succ, List.set_cons_zero] at hM)))
            have hcb := hM.cells 3 rfl
            have hlb := hM.lt 3 rfl
            have hcc := hM.cells 1 rfl
            have hlc := hM.lt 1 rfl
            simp only [cBound] at hcb hcc
            clear hrb
            go_wp2_with fail
            go_roundg (l.length - (j + 1))
            case measure => have := HGJ.out; omega
            case rel => exact ⟨j + 1, _, rfl, by omega, by go_num, rfl, by rw [HS2.out]; exact hM.take_ 3⟩
          · cases h1 : decide (cL b = cL c)
            · have hs := HS.out
              rw [h0, h1] at hs
              simp only [Bool.false_and, Bool.true_and, Bool.and_false, Bool.and_true, Bool.false_eq_true, if_false, if_true, List.append_nil] at hs
              have HS2 := Lib.hid hs
              clear hs
              have e0 : (b.pr == pr) = true := h0
              clear h0
              go_upto_region 9 with         (first
          | (refine at_load_ (T := 49) ?_; refine wpList_load_mid rfl 49 _ rfl gB (offB + j * 7) rfl (cBound b) _ hrb Try.underlying49 rfl sz_Bound ?_)
          | (refine at_box_ ?_; refine wpList_box_mem rfl _ _ rfl _ rfl hM ?_; clear hM; intro gb W hM; first | (simp only [List.nil_append] at hM) | (simp only [List.cons_append, List.nil_append] at hM))
          | (refine at_alloc_ (T := 49) ?_; refine wpList_alloc_mem rfl 49 rfl _ zv_Bound _ rfl hM ?_; clear hM; intro gb W hM; first | (simp only [List.nil_append] at hM) | (simp only [List.cons_append, List.nil_append] at hM))
          | (refine at_load_ (T := 49) ?_; refine at_wanted_ (by go_simp) ?_; first | (refine wpList_loadg_mem (by go_simp) 49 _ rfl 0 _ _ _ hM rfl rfl _ Try.underlying49 rfl sz_Bound ?_) | (refine wpList_loadg_mem (by go_simp) 49 _ rfl 1 _ _ _ hM rfl rfl _ Try.underlying49 rfl sz_Bound ?_) | (refine wpList_loadg_mem (by go_simp) 49 _ rfl 2 _ _ _ hM rfl rfl _ Try.underlying49 rfl sz_Bound ?_) | (refine wpList_loadg_mem (by go_simp) 49 _ rfl 3 _ _ _ hM rfl rfl _ Try.underlying49 rfl sz_Bound ?_))
          | (refine at_store_ (T := 49) ?_; first | (refine wpList_store_mem rfl 49 _ _ rfl 0 _ _ _ _ hM rfl rfl rfl rfl sz_Bound rfl ?_; clear hM; intro W hM; simp only [List.set_cons_zero] at hM) | (refine wpList_store_mem rfl 49 _ _ rfl 1 _ _ _ _ hM rfl rfl rfl rfl sz_Bound rfl ?_; clear hM; intro W hM; simp only [List.set_cons_succ, List.set_cons_zero] at hM) | (refine wpList_store_mem rfl 49 _ _ rfl 2 _ _ _ _ hM rfl rfl rfl rfl sz_Bound rfl ?_; clear hM; intro W hM; simp only [List.set_cons_succ, List.set_cons_zero] at hM) | (refine wpList_store_mem rfl 49 _ _ rfl 3 _ _ _ _ hM rfl rfl rfl rfl sz_Bound rfl ?_; clear hM; intro W hM; simp only [List.set_cons_succ, List.set_cons_zero] at hM)))
              have hcb := hM.cells 3 rfl
              have hlb := hM.lt 3 rfl
              have hcc := hM.cells 1 rfl
              have hlc := hM.lt 1 rfl
              simp only [cBound] at hcb hcc
              clear hrb
              go_wp2_with (first | (refine at_load_ (T := 41) ?_; refine at_wanted_ (by go_simp) ?_; first | (refine wpList_loads_mem (by go_simp) _ _ rfl 3 _ 1 _ _ [.int .u32 b.la, .int .i64 b.lp] hM rfl rfl rfl _ Try.underlying41 rfl sz_End ?_) | (refine wpList_loads_mem (by go_simp) _ _ rfl 3 _ 3 _ _ [.int .u32 b.ra, .int .i64 b.rp] hM rfl rfl rfl _ Try.underlying41 rfl sz_End ?_) | (refine wpList_loads_mem (by go_simp) _ _ rfl 1 _ 1 _ _ [.int .u32 c.la, .int .i64 c.lp] hM rfl rfl rfl _ Try.underlying41 rfl sz_End ?_) | (refine wpList_loads_mem (by go_simp) _ _ rfl 1 _ 3 _ _ [.int .u32 c.ra, .int .i64 c.rp] hM rfl rfl rfl _ Try.underlying41 rfl sz_End ?_)) | (refine at_eq_ (T := 41) ?_; first | (refine wpList_eq_mem (by go_simp) _ _ _ _ rfl _ _ rfl rfl eg_End false (fun W => eqx_End (cL b) (cL c) false h1 W) ?_)))
              go_roundg (l.length - (j + 1))
              case measure => have := HGJ.out; omega
              case rel => exact ⟨j + 1, _, rfl, by omega, by go_num, rfl, by rw [HS2.out]; exact hM.take_ 3⟩
            · cases h2 : decide (cR b = cR c)
              · have hs := HS.out
                rw [h0, h1, h2] at hs
                simp only [Bool.false_and, Bool.true_and, Bool.and_false, Bool.and_true, Bool.false_eq_true, if_false, if_true, List.append_nil] at hs
                have HS2 := Lib.hid hs
                clear hs
                have e0 : (b.pr == pr) = true := h0
                clear h0
                go_upto_region 9 with         (first
          | (refine at_load_ (T := 49) ?_; refine wpList_load_mid rfl 49 _ rfl gB (offB + j * 7) rfl (cBound b) _ hrb Try.underlying49 rfl sz_Bound ?_)
          | (refine at_box_ ?_; refine wpList_box_mem rfl _ _ rfl _ rfl hM ?_; clear hM; intro gb W hM; first | (simp only [List.nil_append] at hM) | (simp only [List.cons_append, List.nil_append] at hM))
          | (refine at_alloc_ (T := 49) ?_; refine wpList_alloc_mem rfl 49 rfl _ zv_Bound _ rfl hM ?_; clear hM; intro gb W hM; first | (simp only [List.nil_append] at hM) | (simp only [List.cons_append, List.nil_append] at hM))
          | (refine at_load_ (T := 49) ?_; refine at_wanted_ (by go_simp) ?_; first | (refine wpList_loadg_mem (by go_simp) 49 _ rfl 0 _ _ _ hM rfl rfl _ Try.underlying49 rfl sz_Bound ?_) | (refine wpList_loadg_mem (by go_simp) 49 _ rfl 1 _ _ _ hM rfl rfl _ Try.underlying49 rfl sz_Bound ?_) | (refine wpList_loadg_mem (by go_simp) 49 _ rfl 2 _ _ _ hM rfl rfl _ Try.underlying49 rfl sz_Bound ?_) | (refine wpList_loadg_mem (by go_simp) 49 _ rfl 3 _ _ _ hM rfl rfl _ Try.underlying49 rfl sz_Bound ?_))
          | (refine at_store_ (T := 49) ?_; first | (refine wpList_store_mem rfl 49 _ _ rfl 0 _ _ _ _ hM rfl rfl rfl rfl sz_Bound rfl ?_; clear hM; intro W hM; simp only [List.set_cons_zero] at hM) | (refine wpList_store_mem rfl 49 _ _ rfl 1 _ _ _ _ hM rfl rfl rfl rfl sz_Bound rfl ?_; clear hM; intro W hM; simp only [List.set_cons_succ, List.set_cons_zero] at hM) | (refine wpList_store_mem rfl 49 _ _ rfl 2 _ _ _ _ hM rfl rfl rfl rfl sz_Bound rfl ?_; clear hM; intro W hM; simp only [List.set_cons_succ, List.set_cons_zero] at hM) | (refine wpList_store_mem rfl 49 _ _ rfl 3 _ _ _ _ hM rfl rfl rfl rfl sz_Bound rfl ?_; clear hM; intro W hM; simp only [List.set_cons_succ, List.set_cons_zero] at hM)))
                have hcb := hM.cells 3 rfl
                have hlb := hM.lt 3 rfl
                have hcc := hM.cells 1 rfl
                have hlc := hM.lt 1 rfl
                simp only [cBound] at hcb hcc
                clear hrb
                go_wp2_with (first | (refine at_load_ (T := 41) ?_; refine at_wanted_ (by go_simp) ?_; first | (refine wpList_loads_mem (by go_simp) _ _ rfl 3 _ 1 _ _ [.int .u32 b.la, .int .i64 b.lp] hM rfl rfl rfl _ Try.underlying41 rfl sz_End ?_) | (refine wpList_loads_mem (by go_simp) _ _ rfl 3 _ 3 _ _ [.int .u32 b.ra, .int .i64 b.rp] hM rfl rfl rfl _ Try.underlying41 rfl sz_End ?_) | (refine wpList_loads_mem (by go_simp) _ _ rfl 1 _ 1 _ _ [.int .u32 c.la, .int .i64 c.lp] hM rfl rfl rfl _ Try.underlying41 rfl sz_End ?_) | (refine wpList_loads_mem (by go_simp) _ _ rfl 1 _ 3 _ _ [.int .u32 c.ra, .int .i64 c.rp] hM rfl rfl rfl _ Try.underlying41 rfl sz_End ?_)) | (refine at_eq_ (T := 41) ?_; first | (refine wpList_eq_mem (by go_simp) _ _ _ _ rfl _ _ rfl rfl eg_End true (fun W => eqx_End (cL b) (cL c) true h1 W) ?_) | (refine wpList_eq_mem (by go_simp) _ _ _ _ rfl _ _ rfl rfl eg_End false (fun W => eqx_End (cR b) (cR c) false h2 W) ?_)))
                go_roundg (l.length - (j + 1))
                case measure => have := HGJ.out; omega
                case rel => exact ⟨j + 1, _, rfl, by omega, by go_num, rfl, by rw [HS2.out]; exact hM.take_ 3⟩
              · have hs := HS.out
                rw [h0, h1, h2] at hs
                simp only [Bool.false_and, Bool.true_and, Bool.and_false, Bool.and_true, Bool.false_eq_true, if_false, if_true, List.append_nil] at hs
                have HS2 := Lib.hid hs
                clear hs
                have e0 : (b.pr == pr) = true := h0
                clear h0
                go_upto_region 9 with         (first
          | (refine at_load_ (T := 49) ?_; refine wpList_load_mid rfl 49 _ rfl gB (offB + j * 7) rfl (cBound b) _ hrb Try.underlying49 rfl sz_Bound ?_)
          | (refine at_box_ ?_; refine wpList_box_mem rfl _ _ rfl _ rfl hM ?_; clear hM; intro gb W hM; first | (simp only [List.nil_append] at hM) | (simp only [List.cons_append, List.nil_append] at hM))
          | (refine at_alloc_ (T := 49) ?_; refine wpList_alloc_mem rfl 49 rfl _ zv_Bound _ rfl hM ?_; clear hM; intro gb W hM; first | (simp only [List.nil_append] at hM) | (simp only [List.cons_append, List.nil_append] at hM))
          | (refine at_load_ (T := 49) ?_; refine at_wanted_ (by go_simp) ?_; first | (refine wpList_loadg_mem (by go_simp) 49 _ rfl 0 _ _ _ hM rfl rfl _ Try.underlying49 rfl sz_Bound ?_) | (refine wpList_loadg_mem (by go_simp) 49 _ rfl 1 _ _ _ hM rfl rfl _ Try.underlying49 rfl sz_Bound ?_) | (refine wpList_loadg_mem (by go_simp) 49 _ rfl 2 _ _ _ hM rfl rfl _ Try.underlying49 rfl sz_Bound ?_) | (refine wpList_loadg_mem (by go_simp) 49 _ rfl 3 _ _ _ hM rfl rfl _ Try.underlying49 rfl sz_Bound ?_))
          | (refine at_store_ (T := 49) ?_; first | (refine wpList_store_mem rfl 49 _ _ rfl 0 _ _ _ _ hM rfl rfl rfl rfl sz_Bound rfl ?_; clear hM; intro W hM; simp only [List.set_cons_zero] at hM) | (refine wpList_store_mem rfl 49 _ _ rfl 1 _ _ _ _ hM rfl rfl rfl rfl sz_Bound rfl ?_; clear hM; intro W hM; simp only [List.set_cons_succ, List.set_cons_zero] at hM) | (refine wpList_store_mem rfl 49 _ _ rfl 2 _ _ _ _ hM rfl rfl rfl rfl sz_Bound rfl ?_; clear hM; intro W hM; simp only [List.set_cons_succ, List.set_cons_zero] at hM) | (refine wpList_store_mem rfl 49 _ _ rfl 3 _ _ _ _ hM rfl rfl rfl rfl sz_Bound rfl ?_; clear hM; intro W hM; simp only [List.set_cons_succ, List.set_cons_zero] at hM)))
                have hcb := hM.cells 3 rfl
                have hlb := hM.lt 3 rfl
                have hcc := hM.cells 1 rfl
                have hlc := hM.lt 1 rfl
                simp only [cBound] at hcb hcc
                clear hrb
                go_wp2_with (first | (refine at_load_ (T := 41) ?_; refine at_wanted_ (by go_simp) ?_; first | (refine wpList_loads_mem (by go_simp) _ _ rfl 3 _ 1 _ _ [.int .u32 b.la, .int .i64 b.lp] hM rfl rfl rfl _ Try.underlying41 rfl sz_End ?_) | (refine wpList_loads_mem (by go_simp) _ _ rfl 3 _ 3 _ _ [.int .u32 b.ra, .int .i64 b.rp] hM rfl rfl rfl _ Try.underlying41 rfl sz_End ?_) | (refine wpList_loads_mem (by go_simp) _ _ rfl 1 _ 1 _ _ [.int .u32 c.la, .int .i64 c.lp] hM rfl rfl rfl _ Try.underlying41 rfl sz_End ?_) | (refine wpList_loads_mem (by go_simp) _ _ rfl 1 _ 3 _ _ [.int .u32 c.ra, .int .i64 c.rp] hM rfl rfl rfl _ Try.underlying41 rfl sz_End ?_)) | (refine at_eq_ (T := 41) ?_; first | (refine wpList_eq_mem (by go_simp) _ _ _ _ rfl _ _ rfl rfl eg_End true (fun W => eqx_End (cL b) (cL c) true h1 W) ?_) | (refine wpList_eq_mem (by go_simp) _ _ _ _ rfl _ _ rfl rfl eg_End true (fun W => eqx_End (cR b) (cR c) true h2 W) ?_)) | (refine at_bslice_ ?_; refine wpList_bslice_mem rfl _ 3 _ rfl Try.underlying92 _ zv_int (cInt b.ow) rfl rfl sz_int (Nat.le_of_ble_eq_true rfl) (Nat.le_of_ble_eq_true rfl) hM ?_; clear hM; intro gb W hM; simp only [List.cons_append, List.nil_append] at hM) | (refine at_append_ ?_; refine wpList_append_row (f := cInt) rfl _ _ _ 3 rfl Try.underlying92 8 elem_int (by decide) 2 4 _ _ _ b.ow hM rfl rfl rfl _ rfl rfl (one_cInt _) (by omega) (by simp only [maxLen]; omega) ?_; clear hM; intro vN W hM; simp only [List.set_cons_succ, List.set_cons_zero] at hM))
                go_roundg (l.length - (j + 1))
                case measure => have := HGJ.out; omega
                case rel => exact ⟨j + 1, _, rfl, by omega, by go_num, rfl, by rw [HS2.out]; exact hM.take_ 3⟩
        · have hjl : j = l.length := by omega
          subst hjl
          rw [List.take_length] at hM hbl
          obtain ⟨AB, capB, rfl⟩ := (hM.row 2 rfl).form
          by_cases hB0 : (pBest l pr (cL c) (cR c)).length = 0
          · have HB := Lib.hid (List.eq_nil_of_length_eq_zero hB0 : pBc l pr c = [])
            have hB1 : (((pBest l pr (cL c) (cR c)).length : Nat) : Int) = 0 := by omega
            have HM := Lib.hid hM
            clear hM hbl
            generalize (pBest l pr (cL c) (cR c)).length = m at *
            subst hB0
            clear hB1
            go_wp2_with fail
            go_roundg (3 - (k + 1))
            case measure => have := HGK.out; omega
            case rel =>
              refine ⟨k + 1, rfl, by omega, by go_num, HM.out.take_ 1, Lib.hid (fun j d hj hd => ?_)⟩
              by_cases hjk : j < k
              · exact HP.out j d hjk hd
              · have e : j = k := by omega
                subst e
                have := Option.some.inj (hd.symm.trans HC.out)
                subst this
                exact HB.out
          · have hne : pBc l pr c ≠ [] := fun e => hB0 (by show (pBc l pr c).length = 0; rw [e]; rfl)
            have hf := find_hit (n := n) HC.out HP.out hne
            rw [HLC.out, HRM.out] at hf
            obtain ⟨gQ, offQ, capQ, hv, _⟩ := (hM.row 2 rfl).pos (by omega)
            injection hv with hv1 _ hv2
            subst hv1 hv2
            obtain ⟨m, hm⟩ : ∃ m, m = (pBest l pr (cL c) (cR c)).length := ⟨_, rfl⟩
            obtain ⟨ix, hix⟩ : ∃ ix, ix = n % m := ⟨_, rfl⟩
            have hil : ix < m := by rw [hix]; exact Nat.mod_lt _ (by omega)
            obtain ⟨o, ho⟩ : ∃ o, (pBest l pr (cL c) (cR c))[ix]? = some o := ⟨(pBest l pr (cL c) (cR c))[ix]'(by omega), List.getElem?_eq_getElem _⟩
            have hpa : pAt (pBc l pr c) n = o := by
              unfold pAt
              show ((pBest l pr (cL c) (cR c))[n % (pBest l pr (cL c) (cR c)).length]?).getD 0 = o
              rw [← hm, ← hix, ho]; rfl
            rw [hpa] at hf
            have hrq := row_range (size := 1) (f := cInt) (fun _ => rfl) (hM.win_ 2 rfl) ix o ho
            have hcell : wr.cell? ⟨gQ, offQ + ix, none⟩ = some (.int .i64 o) := by
              have := hrq 0 (.int .i64 o) rfl
              rwa [Nat.mul_one, Nat.add_zero] at this
            have hgq : gQ < wr.heap.size := (hM.lo _ (List.mem_of_getElem? (i := 2) rfl) gQ rfl).2
            rw [← hm] at hbl hB0 hM ⊢
            have hmod : (n : Int) % (m : Int) = (ix : Int) := by rw [hix]; rfl
            have hm1 : 1 ≤ m := by omega
            have hm32 : m ≤ 32 := by omega
            have HF := Lib.hid hf
            have HB := Lib.hid hM.b
            clear hf hne hrq hpa ho hm hix hB0 hM hc1
            go_wp2_with fail
            go_ret2
            rw [HF.out]
            exact ⟨rfl, HB.out⟩
    · obtain rfl : k = 3 := by omega
      have hf := find_no (n := n) HP.out
      rw [HLC.out, HRM.out] at hf
      have HF := Lib.hid hf
      clear hf
      go_wp2_with fail
      go_ret2
      rw [HF.out]
      exact ⟨rfl, hM.b⟩
end Go.Proofs.Ytalfdbhpaonfjaa
