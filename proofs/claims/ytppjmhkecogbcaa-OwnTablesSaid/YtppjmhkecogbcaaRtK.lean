/- packetboatref.Eq over two rows of Prefix that are the same. -/
import Derived.Test.YtppjmhkecogbcaaRtJ
namespace Go.Proofs.Ytppjmhkecogbcaa
open Go.RowKit Go.Lib
set_option linter.unusedVariables false
set_option linter.unusedSimpArgs false

set_option maxRecDepth 100000 in
set_option maxHeartbeats 8000000 in
theorem Eq_pre (E : Nat → Prop) (v1 v2 : Value) (l : List (List Bool)) (w : World) (hM : MemX E w w [rowR 2 cPa v1 l, rowR 2 cPa v2 l]) (hn : l.length ≤ 100000) :
    Calls Try.prog 9 #[v1, v2] w fun e w' => e = .returned (.bool true) ∧ MemX E w w' [rowR 2 cPa v1 l, rowR 2 cPa v2 l] := by
  obtain ⟨A1, cp1, rfl⟩ := (hM.row (f := cPa) (rs := l) 0 rfl).form
  obtain ⟨A2, cp2, rfl⟩ := (hM.row (f := cPa) (rs := l) 1 rfl).form
  go_enter Try.func9, Try.ntmps9
  go_wp2_with fail
  go_loopg [14] l.length (fun gh i wr => ∃ k : Nat, gh = l.length - k ∧ k ≤ l.length ∧ i = .int .i64 k ∧ MemX E w wr [rowR 2 cPa (.slice A1 l.length cp1) l, rowR 2 cPa (.slice A2 l.length cp2) l])
  case atStart => exact ⟨0, by omega, by omega, rfl, hM⟩
  case round =>
    clear hM
    obtain ⟨k, hgk, hk, rfl, hM⟩ := hrel
    have HGK := Lib.hid hgk
    clear hgk
    by_cases hlt : k < l.length
    · obtain ⟨b, hbb⟩ : ∃ b, l[k]? = some b := ⟨l[k], List.getElem?_eq_getElem hlt⟩
      have he : l[k] = b := Option.some.inj ((List.getElem?_eq_getElem hlt).symm.trans hbb)
      obtain ⟨g1, o1, c1', hv1, hWA1⟩ := (show Win wr 0 2 (.slice A1 l.length cp1) l.length (l.flatMap cPa) from hM.row (f := cPa) (rs := l) 0 rfl).pos (by omega)
      injection hv1 with e1 e3 e2
      clear e3
      subst e1 e2
      obtain ⟨g2, o2, c2', hv2, hWA2⟩ := (show Win wr 0 2 (.slice A2 l.length cp2) l.length (l.flatMap cPa) from hM.row (f := cPa) (rs := l) 1 rfl).pos (by omega)
      injection hv2 with e1 e3 e2
      clear e3
      subst e1 e2
      have hr1 := row_range (f := cPa) (size := 2) (fun _ => rfl) (show Win wr 0 2 _ l.length (l.flatMap cPa) from hM.row (f := cPa) (rs := l) 0 rfl) k b hbb
      have hg2 := hWA2.lt
      have HW1 := Lib.hid (fun W (h : (rowR 2 cPa (.slice (some ⟨g2, o2, none⟩) l.length cp2) l).P W) => (by
        have hr := row_range (f := cPa) (size := 2) (fun _ => rfl) (show Win W 0 2 (.slice (some ⟨g2, o2, none⟩) l.length cp2) l.length (l.flatMap cPa) from h) k b hbb
        exact ⟨hr 0 _ rfl, hr 1 _ rfl⟩ : W.cell? ⟨g2, o2 + k * 2, none⟩ = some (.int .u32 (num b)) ∧ W.cell? ⟨g2, o2 + k * 2 + 1, none⟩ = some (.int .i64 b.length)))
      clear hbb he hg2 hWA1 hWA2
      go_upto_region 6 with         (first
          | go_skip
          | ((with_reducible refine at_load_ (T := 33) ?_); refine wpList_load_mid rfl 33 _ rfl g1 (o1 + k * 2) rfl (cPa b) _ hr1 Try.underlying33 rfl sz_Prefix ?_)
          | ((with_reducible refine at_box_ ?_); refine wpList_box_mem rfl _ _ rfl _ rfl hM ?_; clear hM; intro gb W hM; first | (simp only [List.nil_append] at hM) | (simp only [List.cons_append, List.nil_append] at hM))
          | ((with_reducible refine at_alloc_ (T := 33) ?_); refine wpList_alloc_mem rfl 33 rfl _ zv_Prefix _ rfl hM ?_; clear hM; intro gb W hM; first | (simp only [List.nil_append] at hM) | (simp only [List.cons_append, List.nil_append] at hM))
          | ((with_reducible refine at_load_ (T := 33) ?_); refine at_wanted_ (by rfl) ?_; first | (refine wpList_loadg_mem (by go_simp) 33 _ rfl 0 _ _ _ hM rfl rfl _ Try.underlying33 rfl sz_Prefix ?_) | (refine wpList_loadg_mem (by go_simp) 33 _ rfl 1 _ _ _ hM rfl rfl _ Try.underlying33 rfl sz_Prefix ?_) | (refine wpList_loadg_mem (by go_simp) 33 _ rfl 2 _ _ _ hM rfl rfl _ Try.underlying33 rfl sz_Prefix ?_))
          | ((with_reducible refine at_store_ (T := 33) ?_); first | (refine wpList_store_mem rfl 33 _ _ rfl 0 _ _ _ _ hM rfl rfl rfl rfl sz_Prefix rfl ?_; clear hM; intro W hM; simp only [List.set_cons_zero] at hM) | (refine wpList_store_mem rfl 33 _ _ rfl 1 _ _ _ _ hM rfl rfl rfl rfl sz_Prefix rfl ?_; clear hM; intro W hM; simp only [List.set_cons_succ, List.set_cons_zero] at hM) | (refine wpList_store_mem rfl 33 _ _ rfl 2 _ _ _ _ hM rfl rfl rfl rfl sz_Prefix rfl ?_; clear hM; intro W hM; simp only [List.set_cons_succ, List.set_cons_zero] at hM)))
      clear hr1
      refine wp_region_M [1,2] [] hM (by kernel_rfl) ?_
      clear hM
      intro wo hM
      refine wpI_take (i := 0) (v := ?_) rfl (by kernel_rfl) (by kernel_rfl) (by kernel_rfl) (by kernel_rfl) (by first | exact fun _ _ _ h => h | exact fun _ _ _ h => HQ0.out _ _ _ _ _ h) ⟨fun r hr => hM.get 1 hr, fun r hr => hM.get 2 hr, trivial⟩ (Or.inl ⟨by rfl, ?hy⟩) ?_
      case hy => (rintro W ⟨i1, i2, -⟩; have c1 := HW1.out W (i1 _ rfl); have c2 := (show At W _ _ _ from i2 _ rfl).cell; (try simp only [cPa] at c2); go_simp; (try with_reducible rfl))
      simp only [Act.put, List.getElem_toArray, List.getElem_cons_succ, List.getElem_cons_zero, List.setIfInBounds_toArray, List.set_cons_zero, List.set_cons_succ]
      refine wpI_takeP (i := 1) (v := ?_) rfl (by kernel_rfl) (by kernel_rfl) (by kernel_rfl) (by first | exact fun _ _ _ h => h | exact fun _ _ _ h => HQ0.out _ _ _ _ _ h) (Or.inl ⟨by rfl, ?hy⟩) ?_
      case hy => (intro W; go_simp; (try with_reducible rfl))
      simp only [Act.put, List.getElem_toArray, List.getElem_cons_succ, List.getElem_cons_zero, List.setIfInBounds_toArray, List.set_cons_zero, List.set_cons_succ]
      refine wpI_takeP (i := 2) (v := ?_) rfl (by kernel_rfl) (by kernel_rfl) (by kernel_rfl) (by first | exact fun _ _ _ h => h | exact fun _ _ _ h => HQ0.out _ _ _ _ _ h) (Or.inl ⟨by rfl, ?hy⟩) ?_
      case hy => (intro W; go_simp; (try with_reducible rfl))
      simp only [Act.put, List.getElem_toArray, List.getElem_cons_succ, List.getElem_cons_zero, List.setIfInBounds_toArray, List.set_cons_zero, List.set_cons_succ]
      refine wpI_takeP (i := 3) (v := ?_) rfl (by kernel_rfl) (by kernel_rfl) (by kernel_rfl) (by first | exact fun _ _ _ h => h | exact fun _ _ _ h => HQ0.out _ _ _ _ _ h) (Or.inl ⟨by rfl, ?hy⟩) ?_
      case hy => (intro W; go_simp; (try with_reducible rfl))
      simp only [Act.put, List.getElem_toArray, List.getElem_cons_succ, List.getElem_cons_zero, List.setIfInBounds_toArray, List.set_cons_zero, List.set_cons_succ]
      refine wpI_take (i := 4) (v := ?_) rfl (by kernel_rfl) (by kernel_rfl) (by kernel_rfl) (by kernel_rfl) (by first | exact fun _ _ _ h => h | exact fun _ _ _ h => HQ0.out _ _ _ _ _ h) ⟨fun r hr => hM.get 1 hr, fun r hr => hM.get 2 hr, trivial⟩ (Or.inl ⟨by rfl, ?hy⟩) ?_
      case hy => (rintro W ⟨i1, i2, -⟩; have c1 := HW1.out W (i1 _ rfl); have c2 := (show At W _ _ _ from i2 _ rfl).cell; (try simp only [cPa] at c2); go_simp; (try with_reducible rfl))
      simp only [Act.put, List.getElem_toArray, List.getElem_cons_succ, List.getElem_cons_zero, List.setIfInBounds_toArray, List.set_cons_zero, List.set_cons_succ]
      refine wpI_takeP (i := 5) rfl (by kernel_rfl) (by kernel_rfl) (by kernel_rfl) (by first | exact fun _ _ _ h => h | exact fun _ _ _ h => HQ0.out _ _ _ _ _ h) ((yields_ne (by rfl) _ _ _ _ rfl _ _ rfl rfl eg_Prefix true (fun W => eqT_Prefix ⟨num b, b.length⟩ W))) ?_
      simp only [Act.put, List.getElem_toArray, List.getElem_cons_succ, List.getElem_cons_zero, List.setIfInBounds_toArray, List.set_cons_zero, List.set_cons_succ]
      (try simp only [Bool.not_true, Bool.not_false])
      refine wpI_done (by kernel_rfl) ?_ _
      (try simp only [Act.put, List.getElem_toArray, List.getElem_cons_succ, List.getElem_cons_zero, List.setIfInBounds_toArray, List.set_cons_zero, List.set_cons_succ])
      go_wp2_with fail
      go_roundg (l.length - (k + 1))
      case measure => have := HGK.out; omega
      case rel => exact ⟨k + 1, rfl, by omega, by go_num, hM.take_ 2⟩
    · go_wp2_with fail
      go_ret
      exact ⟨rfl, hM⟩
end Go.Proofs.Ytppjmhkecogbcaa
