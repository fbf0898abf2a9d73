/- frag: In whole; New, Open. Written by my genfg.py. -/
import Derived.Test.YtmcdmgnpbhkdhaaFgT
namespace Go.Proofs.Ytmcdmgnpbhkdhaa
open Go.RowKit Go.Lib
set_option linter.unusedVariables false
set_option linter.unusedSimpArgs false


theorem In_any (g gm : Nat) (es : List FE) (p : Pk) (w : World) (hM0 : MemX (blkE (fgL g gm es)) w w (fgL g gm es)) (hI : FInv es) (hL : PkLim p) :
    Calls Try.prog 36 #[.pointer (some ⟨g, 0, none⟩), .agg (pkC p).toArray] w fun e w' => InPost (blkE (fgL g gm es)) w g gm es p e w' := by
  by_cases hc : ipChk p = 0
  · cases hmf : p.mf with
    | false =>
      by_cases ho : p.off = 0
      · refine (In_sole g gm es p w hM0 hL hc hmf ho).mono ?_
        rintro e w' ⟨rfl, h⟩
        exact ⟨p, true, 0, es, rfl, h, hI, .inr (.inl ⟨hc, ⟨hmf, ho⟩, rfl, rfl, rfl, rfl⟩)⟩
      · by_cases hl : 4000 < 8 * p.off + p.b.size
        · refine (In_large0 g gm es p w hM0 hL hc hmf ho hl).mono ?_
          rintro e w' ⟨rfl, h⟩
          exact ⟨zPk, false, 2, es, rfl, h, hI, .inr (.inr (.inr (.inl ⟨hc, hl, rfl, rfl, rfl, rfl⟩)))⟩
        · exact In_go g gm es p w hM0 hI hL hc (fun _ => ho) (fun h => by rw [hmf] at h; cases h) (by omega)
    | true =>
      by_cases hs : p.b.size = 0
      · refine (In_form0 g gm es p w hM0 hL hc hmf hs).mono ?_
        rintro e w' ⟨rfl, h⟩
        exact ⟨zPk, false, 4, es, rfl, h, hI, .inr (.inr (.inl ⟨hc, .inr ⟨hmf, hs⟩, rfl, rfl, rfl, rfl⟩))⟩
      · by_cases h8 : p.b.size % 8 = 0
        · by_cases hl : 4000 < 8 * p.off + p.b.size
          · refine (In_large1 g gm es p w hM0 hL hc hmf ⟨h8, by omega⟩ hl).mono ?_
            rintro e w' ⟨rfl, h⟩
            exact ⟨zPk, false, 2, es, rfl, h, hI, .inr (.inr (.inr (.inl ⟨hc, hl, rfl, rfl, rfl, rfl⟩)))⟩
          · exact In_go g gm es p w hM0 hI hL hc (fun h => by rw [hmf] at h; cases h) (fun _ => ⟨h8, by omega⟩) (by omega)
        · refine (In_form8 g gm es p w hM0 hL hc hmf h8).mono ?_
          rintro e w' ⟨rfl, h⟩
          exact ⟨zPk, false, 4, es, rfl, h, hI, .inr (.inr (.inl ⟨hc, .inl ⟨hmf, h8⟩, rfl, rfl, rfl, rfl⟩))⟩
  · refine (In_early g gm es p w hM0 hL hc).mono ?_
    rintro e w' ⟨rfl, h⟩
    exact ⟨zPk, false, _, es, rfl, h, hI, .inl ⟨hc, rfl, rfl, rfl, rfl⟩⟩
theorem newfrag_any (w : World) : Calls Try.prog 34 #[] w fun e w' => ∃ g gm, e = .returned (.pointer (some ⟨g, 0, none⟩)) ∧ Mem w w' (fgL g gm []) := by
  have hM := Mem.nil w
  go_enter Try.func34, Try.ntmps34
  go_wp2_with (first | go_skip | ((with_reducible refine at_makeMap_ ?_); refine wpList_makeMap_m rfl rfl Try.prog 113 fNm fGP hM ?_; clear hM; intro gm W hM) | ((with_reducible refine at_box_ ?_); refine wpList_box_mem rfl _ _ rfl [.map (some gm)] rfl hM ?_; clear hM; intro g W hM))
  go_ret
  exact ⟨g, gm, rfl, hM.perm (List.Perm.swap _ _ _)⟩
theorem Open_any (g gm : Nat) (es : List FE) (w : World) (hM0 : MemX (blkE (fgL g gm es)) w w (fgL g gm es)) (hl : es.length ≤ 8) :
    Calls Try.prog 37 #[.pointer (some ⟨g, 0, none⟩)] w fun e w' => e = .returned (.int .i64 es.length) ∧ MemX (blkE (fgL g gm es)) w w' (fgL g gm es) := by
  have hM : MemX (blkE (fgL g gm es)) w w (atR g 111 [.map (some gm)] :: mpR gm es :: es.map eR) := hM0
  go_enter Try.func37, Try.ntmps37
  go_wp2_with (first
    | go_skip
    | ((with_reducible refine at_len_ ?_); refine wpList_len_m rfl _ rfl mapTy_frag.ht 1 hM rfl rfl ?_)
    | ((with_reducible refine at_box_ ?_); refine wpList_box_mem rfl _ _ rfl _ rfl hM ?_; clear hM; intro gb W hM; first | (simp only [List.nil_append] at hM) | (simp only [List.cons_append, List.nil_append] at hM))
    | ((with_reducible refine at_load_ ?_); refine at_wanted_ (by rfl) ?_; refine wpList_loadf_mem (by go_simp) _ _ rfl (by kernel_rfl) 0 _ _ _ _ _ hM rfl rfl (by first | rfl | assumption) ?_)
    | ((with_reducible refine at_store_ ?_); refine wpList_store1_mem rfl _ _ _ rfl 0 _ _ _ _ _ hM rfl rfl (by first | ((conv => lhs; whnf); done) | ((conv => lhs; whnf); rfl)) (by rfl) (by rfl) (by kernel_rfl) rfl ?_; clear hM; intro W hM; simp only [List.set_cons_succ, List.set_cons_zero] at hM))
  go_ret
  exact ⟨by simp, hM⟩

end Go.Proofs.Ytmcdmgnpbhkdhaa
