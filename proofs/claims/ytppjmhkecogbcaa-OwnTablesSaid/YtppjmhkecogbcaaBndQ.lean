/- packetboatref.Eq over two rows of Bound that are the same. -/
import Derived.Test.YtppjmhkecogbcaaBndK
namespace Go.Proofs.Ytppjmhkecogbcaa
open Go.RowKit Go.Lib
set_option linter.unusedVariables false
set_option linter.unusedSimpArgs false

set_option maxRecDepth 100000 in
set_option maxHeartbeats 8000000 in
theorem Eq_any (E : Nat → Prop) (v1 v2 : Value) (l : List KBound) (w : World) (hM : MemX E w w [rdR 7 cBound v1 l, rdR 7 cBound v2 l]) (hn : l.length ≤ 100000) :
    Calls Try.prog 10 #[v1, v2] w fun e w' => e = .returned (.bool true) ∧ MemX E w w' [rdR 7 cBound v1 l, rdR 7 cBound v2 l] := by
  obtain ⟨A1, cp1, rfl⟩ := rdR_form (hM.get 0 rfl)
  obtain ⟨A2, cp2, rfl⟩ := rdR_form (hM.get 1 rfl)
  go_enter Try.func10, Try.ntmps10
  go_wp2_with fail
  go_loopg [14] l.length (fun gh i wr => ∃ k : Nat, gh = l.length - k ∧ k ≤ l.length ∧ i = .int .i64 k ∧ MemX E w wr [rdR 7 cBound (.slice A1 l.length cp1) l, rdR 7 cBound (.slice A2 l.length cp2) l])
  case atStart => exact ⟨0, by omega, by omega, rfl, hM⟩
  case round =>
    clear hM
    obtain ⟨k, hgk, hk, rfl, hM⟩ := hrel
    have HGK := Lib.hid hgk
    clear hgk
    by_cases hlt : k < l.length
    · obtain ⟨b, hbb⟩ : ∃ b, l[k]? = some b := ⟨l[k], List.getElem?_eq_getElem hlt⟩
      have he : l[k] = b := Option.some.inj ((List.getElem?_eq_getElem hlt).symm.trans hbb)
      obtain ⟨g1, o1, rfl, hr1, _⟩ := rdR_range (size := 7) (f := cBound) (fun _ => rfl) (hM.get 0 rfl) k hlt
      obtain ⟨g2, o2, rfl, hr2, hg2⟩ := rdR_range (size := 7) (f := cBound) (fun _ => rfl) (hM.get 1 rfl) k hlt
      rw [he] at hr1 hr2
      have HW1 := Lib.hid (fun W (h : (rdR 7 cBound (.slice (some ⟨g2, o2, none⟩) l.length cp2) l).P W) => (by
        obtain ⟨g', o', hv, hr, _⟩ := rdR_range (size := 7) (f := cBound) (fun _ => rfl) h k hlt
        injection hv with hv
        injection hv with e1 e2 _
        subst e1 e2
        rw [he] at hr
        exact ⟨hr 0 _ rfl, hr 1 _ rfl, hr 2 _ rfl, hr 3 _ rfl, hr 4 _ rfl, hr 5 _ rfl, hr 6 _ rfl⟩ : W.cell? ⟨g2, o2 + k * 7, none⟩ = some (.int .i64 b.pr) ∧ W.cell? ⟨g2, o2 + k * 7 + 1, none⟩ = some (.int .u32 b.la) ∧ W.cell? ⟨g2, o2 + k * 7 + 2, none⟩ = some (.int .i64 b.lp) ∧ W.cell? ⟨g2, o2 + k * 7 + 3, none⟩ = some (.int .u32 b.ra) ∧ W.cell? ⟨g2, o2 + k * 7 + 4, none⟩ = some (.int .i64 b.rp) ∧ W.cell? ⟨g2, o2 + k * 7 + 5, none⟩ = some (.bool b.sh) ∧ W.cell? ⟨g2, o2 + k * 7 + 6, none⟩ = some (.int .i64 b.ow)))
      clear hbb he hr2 hg2
      go_upto_region 6 with         (first
          | go_skip
          | ((with_reducible refine at_load_ (T := 39) ?_); refine wpList_load_mid rfl 39 _ rfl g1 (o1 + k * 7) rfl (cBound b) _ hr1 Try.underlying39 rfl sz_Bound ?_)
          | ((with_reducible refine at_box_ ?_); refine wpList_box_mem rfl _ _ rfl _ rfl hM ?_; clear hM; intro gb W hM; first | (simp only [List.nil_append] at hM) | (simp only [List.cons_append, List.nil_append] at hM))
          | ((with_reducible refine at_alloc_ (T := 39) ?_); refine wpList_alloc_mem rfl 39 rfl _ zv_Bound _ rfl hM ?_; clear hM; intro gb W hM; first | (simp only [List.nil_append] at hM) | (simp only [List.cons_append, List.nil_append] at hM))
          | ((with_reducible refine at_load_ (T := 39) ?_); refine at_wanted_ (by rfl) ?_; first | (refine wpList_loadg_mem (by go_simp) 39 _ rfl 0 _ _ _ hM rfl rfl _ Try.underlying39 rfl sz_Bound ?_) | (refine wpList_loadg_mem (by go_simp) 39 _ rfl 1 _ _ _ hM rfl rfl _ Try.underlying39 rfl sz_Bound ?_) | (refine wpList_loadg_mem (by go_simp) 39 _ rfl 2 _ _ _ hM rfl rfl _ Try.underlying39 rfl sz_Bound ?_))
          | ((with_reducible refine at_store_ (T := 39) ?_); first | (refine wpList_store_mem rfl 39 _ _ rfl 0 _ _ _ _ hM rfl rfl rfl rfl sz_Bound rfl ?_; clear hM; intro W hM; simp only [List.set_cons_zero] at hM) | (refine wpList_store_mem rfl 39 _ _ rfl 1 _ _ _ _ hM rfl rfl rfl rfl sz_Bound rfl ?_; clear hM; intro W hM; simp only [List.set_cons_succ, List.set_cons_zero] at hM) | (refine wpList_store_mem rfl 39 _ _ rfl 2 _ _ _ _ hM rfl rfl rfl rfl sz_Bound rfl ?_; clear hM; intro W hM; simp only [List.set_cons_succ, List.set_cons_zero] at hM)))
      clear hr1
      refine wp_region_M [1,2] [] hM (by kernel_rfl) ?_
      clear hM
      intro wo hM
      refine wpI_take (i := 0) (v := ?_) rfl (by kernel_rfl) (by kernel_rfl) (by kernel_rfl) (by kernel_rfl) (by first | exact fun _ _ _ h => h | exact fun _ _ _ h => HQ0.out _ _ _ _ _ h) ⟨fun r hr => hM.get 1 hr, fun r hr => hM.get 2 hr, trivial⟩ (Or.inl ⟨by rfl, ?hy⟩) ?_
      case hy => (rintro W ⟨i1, i2, -⟩; have c1 := HW1.out W (i1 _ rfl); have c2 := (show At W _ _ _ from i2 _ rfl).cell; (try simp only [cBound] at c2); go_simp; (try with_reducible rfl))
      simp only [Act.put, List.getElem_toArray, List.getElem_cons_succ, List.getElem_cons_zero, List.setIfInBounds_toArray, List.set_cons_zero, List.set_cons_succ]
      refine wpI_takeP (i := 1) (v := ?_) rfl (by kernel_rfl) (by kernel_rfl) (by kernel_rfl) (by first | exact fun _ _ _ h => h | exact fun _ _ _ h => HQ0.out _ _ _ _ _ h) (Or.inl ⟨by rfl, ?hy⟩) ?_
      case hy => (intro W; go_simp; (try with_reducible rfl))
      simp only [Act.put, List.getElem_toArray, List.getElem_cons_succ, List.getElem_cons_zero, List.setIfInBounds_toArray, List.set_cons_zero, List.set_cons_succ]
      refine wpI_takeP (i := 2) (v := ?_) rfl (by kernel_rfl) (by kernel_rfl) (by kernel_rfl) (by first | exact fun _ _ _ h => h | exact fun _ _ _ h => HQ0.out _ _ _ _ _ h) (Or.inl ⟨by rfl, ?hy⟩) ?_
      case hy => (intro W; go_simp; (try with_reducible rfl))
      simp only [Act.put, List.getElem_toArray, List.getElem_cons_succ, List.getElem_cons_zero, List.setIfInBounds_toArray, List.set_cons_zero, List.set_cons_succ]
      refine wpI_takeP (i := 3) (v := ?_) rfl (by kernel_rfl) (by kernel_rfl) (by kernel_rfl) (by first | exact fun _ _ _ h => h | exact fun _ _ _ h => HQ0.out _ _ _ _ _ h) (Or.inl ⟨by rfl, ?hy⟩) ?_
      case hy => (intro W; go_simp; (try with_reducible rfl))
      simp only [Act.put, List.getElem_toArray, List.getElem_cons_succ, List.getElem_cons_zero, List.setIfInBounds_toArray, List.set_cons_zero, List.set_cons_succ]
      refine wpI_take (i := 4) (v := ?_) rfl (by kernel_rfl) (by kernel_rfl) (by kernel_rfl) (by kernel_rfl) (by first | exact fun _ _ _ h => h | exact fun _ _ _ h => HQ0.out _ _ _ _ _ h) ⟨fun r hr => hM.get 1 hr, fun r hr => hM.get 2 hr, trivial⟩ (Or.inl ⟨by rfl, ?hy⟩) ?_
      case hy => (rintro W ⟨i1, i2, -⟩; have c1 := HW1.out W (i1 _ rfl); have c2 := (show At W _ _ _ from i2 _ rfl).cell; (try simp only [cBound] at c2); go_simp; (try with_reducible rfl))
      simp only [Act.put, List.getElem_toArray, List.getElem_cons_succ, List.getElem_cons_zero, List.setIfInBounds_toArray, List.set_cons_zero, List.set_cons_succ]
      refine wpI_takeP (i := 5) rfl (by kernel_rfl) (by kernel_rfl) (by kernel_rfl) (by first | exact fun _ _ _ h => h | exact fun _ _ _ h => HQ0.out _ _ _ _ _ h) ((yields_ne (by rfl) _ _ _ _ rfl _ _ rfl rfl eg_Bound true (fun W => eqT_Bound b W))) ?_
      simp only [Act.put, List.getElem_toArray, List.getElem_cons_succ, List.getElem_cons_zero, List.setIfInBounds_toArray, List.set_cons_zero, List.set_cons_succ]
      (try simp only [Bool.not_true, Bool.not_false])
      refine wpI_done (by kernel_rfl) ?_ _
      (try simp only [Act.put, List.getElem_toArray, List.getElem_cons_succ, List.getElem_cons_zero, List.setIfInBounds_toArray, List.set_cons_zero, List.set_cons_succ])
      go_wp2_with fail
      go_roundg (l.length - (k + 1))
      case measure => have := HGK.out; omega
      case rel => exact ⟨k + 1, rfl, by omega, by go_num, hM.take_ 2⟩
    · go_wp2_with fail
      go_ret
      exact ⟨rfl, hM⟩
end Go.Proofs.Ytppjmhkecogbcaa
