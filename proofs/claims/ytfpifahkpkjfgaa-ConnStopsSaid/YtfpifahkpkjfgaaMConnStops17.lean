/- What ConnStops needs, a part: OutqG. -/
import Derived.Test.YtfpifahkpkjfgaaMConnStops16
namespace Go.Proofs.Ytfpifahkpkjfgaa
open Go.RowKit Go.Lib
set_option linter.unusedVariables false
set_option maxRecDepth 100000 in
set_option maxHeartbeats 4000000 in
theorem oFirst_any (g : Nat) (q : OQ) (v : Value) (mss : Int) (w : World) (hM : OPre w w g v q v) (ok : OqOk q) (hb2 : q.base ≤ 4611686018427387904) (hm : -9223372036854775808 ≤ mss ∧ mss ≤ 9223372036854775807) :
  Calls Try.prog 36 #[.pointer (some ⟨g, 0, none⟩), .int .i64 mss] w fun e w' => e = .returned (.tuple #[.agg (cPiece (qPiece q q.una q.sent mss)).toArray, .bool (oIs q q.una q.sent mss)]) ∧ Below w.heap.size w w' := by
 have hfr : OqOk { q with cur := q.una } := ⟨ok.len, ok.ba, ok.uc, Int.le_refl _, Int.le_trans ok.cs ok.se, ok.ee, ok.rel⟩
 have hsb : -9223372036854775808 ≤ q.sent ∧ q.sent ≤ 9223372036854775807 := by
  have := ok.uc; have := ok.cs; have := ok.se; have := ok.ee; have := ok.len; have := qEnd_bd (q := q); unfold oFin at this; omega
 have hAt := hM.at_ 0 rfl
 have hOw := hM.own 1 rfl
 have HP := Lib.hid (fun W (hA : OAt W g q v) (hV : OwnB W 0 v q.l) => pieceF_any g q v q.una q.sent mss W hA hV ok hb2 hfr hsb hm)
 generalize qPiece q q.una q.sent mss = p at *
 generalize oIs q q.una q.sent mss = is at *
 have HA := Lib.hid hAt
 have HW := Lib.hid hOw
 clear hfr hsb hOw ok hM hAt hm hb2
 have hM := Mem.nil w
 go_enter Try.func36, Try.ntmps36
 go_upto_region 1 with         (first
     | go_skip
     | ((with_reducible refine at_box_ ?_); refine wpList_box_mem rfl _ _ rfl _ rfl hM ?_; clear hM; intro gb W hM; first | (simp only [List.nil_append] at hM) | (simp only [List.cons_append, List.nil_append] at hM))
     | ((with_reducible refine at_alloc_ (T := 87) ?_); refine wpList_alloc_mem rfl 87 rfl _ zv_Piece _ rfl hM ?_; clear hM; intro gb W hM; first | (simp only [List.nil_append] at hM) | (simp only [List.cons_append, List.nil_append] at hM))
     | ((with_reducible refine at_load_ (T := 87) ?_); refine at_wanted_ (by rfl) ?_; first | (refine wpList_loadg_mem (by go_simp) 87 _ rfl 0 _ _ _ hM rfl rfl _ Try.underlying87 rfl sz_Piece ?_) | (refine wpList_loadg_mem (by go_simp) 87 _ rfl 1 _ _ _ hM rfl rfl _ Try.underlying87 rfl sz_Piece ?_) | (refine wpList_loadg_mem (by go_simp) 87 _ rfl 2 _ _ _ hM rfl rfl _ Try.underlying87 rfl sz_Piece ?_) | (refine wpList_loadg_mem (by go_simp) 87 _ rfl 3 _ _ _ hM rfl rfl _ Try.underlying87 rfl sz_Piece ?_))
     | ((with_reducible refine at_store_ (T := 87) ?_); first | (refine wpList_store_mem rfl 87 _ _ rfl 0 _ _ _ _ hM rfl rfl rfl rfl sz_Piece rfl ?_; clear hM; intro W hM; simp only [zE] at hM) | (refine wpList_store_mem rfl 87 _ _ rfl 1 _ _ _ _ hM rfl rfl rfl rfl sz_Piece rfl ?_; clear hM; intro W hM; simp only [zF, zE] at hM) | (refine wpList_store_mem rfl 87 _ _ rfl 2 _ _ _ _ hM rfl rfl rfl rfl sz_Piece rfl ?_; clear hM; intro W hM; simp only [zF, zE] at hM) | (refine wpList_store_mem rfl 87 _ _ rfl 3 _ _ _ _ hM rfl rfl rfl rfl sz_Piece rfl ?_; clear hM; intro W hM; simp only [zF, zE] at hM))
     | ((with_reducible refine at_load_ ?_); refine at_wanted_ (by rfl) ?_; first | (refine lM 0 hM rfl rfl rfl (by first | rfl | assumption) ?_) | (refine lM 1 hM rfl rfl rfl (by first | rfl | assumption) ?_) | (refine lM 2 hM rfl rfl rfl (by first | rfl | assumption) ?_) | (refine lM 3 hM rfl rfl rfl (by first | rfl | assumption) ?_))
     | ((with_reducible refine at_store_ ?_); first | (refine sM 0 hM rfl rfl rfl ?_; clear hM; intro W hM; simp only [zF, zE] at hM) | (refine sM 1 hM rfl rfl rfl ?_; clear hM; intro W hM; simp only [zF, zE] at hM) | (refine sM 2 hM rfl rfl rfl ?_; clear hM; intro W hM; simp only [zF, zE] at hM) | (refine sM 3 hM rfl rfl rfl ?_; clear hM; intro W hM; simp only [zF, zE] at hM)))
 have HP2 := Lib.hid (fun (u : Later W) => HP.out u.now ((HA.out.kept hM.b).kept u.still) ((HW.out.kept hM.b).kept u.still))
 have c0 := (HA.out.kept hM.b).cell
 have l0 := (HA.out.kept hM.b).lt
 simp only [oqC] at c0
 refine wp_region_later_tail 13 (by kernel_rfl) (by kernel_rfl) (fun hlc => ?_)
 simp only [List.take_succ_cons, List.take_zero, List.drop_succ_cons, List.drop_zero]
 repeat (go_big_quiet_step ((go_at_call 62; exact later_call (HP2.out _))))
 refine wpQuiet_nil ?_
 intro wq hbq
 clear hlc c0 l0 HP HP2
 replace hM := hM.kept hbq
 clear hbq
 go_wp2_with (first
  | go_skip
  | ((with_reducible refine at_box_ ?_); refine wpList_box_mem rfl _ _ rfl _ rfl hM ?_; clear hM; intro gb W hM; first | (simp only [List.nil_append] at hM) | (simp only [List.cons_append, List.nil_append] at hM))
  | ((with_reducible refine at_alloc_ (T := 87) ?_); refine wpList_alloc_mem rfl 87 rfl _ zv_Piece _ rfl hM ?_; clear hM; intro gb W hM; first | (simp only [List.nil_append] at hM) | (simp only [List.cons_append, List.nil_append] at hM))
  | ((with_reducible refine at_load_ (T := 87) ?_); refine at_wanted_ (by rfl) ?_; first | (refine wpList_loadg_mem (by go_simp) 87 _ rfl 0 _ _ _ hM rfl rfl _ Try.underlying87 rfl sz_Piece ?_) | (refine wpList_loadg_mem (by go_simp) 87 _ rfl 1 _ _ _ hM rfl rfl _ Try.underlying87 rfl sz_Piece ?_) | (refine wpList_loadg_mem (by go_simp) 87 _ rfl 2 _ _ _ hM rfl rfl _ Try.underlying87 rfl sz_Piece ?_) | (refine wpList_loadg_mem (by go_simp) 87 _ rfl 3 _ _ _ hM rfl rfl _ Try.underlying87 rfl sz_Piece ?_))
  | ((with_reducible refine at_store_ (T := 87) ?_); first | (refine wpList_store_mem rfl 87 _ _ rfl 0 _ _ _ _ hM rfl rfl rfl rfl sz_Piece rfl ?_; clear hM; intro W hM; simp only [zE] at hM) | (refine wpList_store_mem rfl 87 _ _ rfl 1 _ _ _ _ hM rfl rfl rfl rfl sz_Piece rfl ?_; clear hM; intro W hM; simp only [zF, zE] at hM) | (refine wpList_store_mem rfl 87 _ _ rfl 2 _ _ _ _ hM rfl rfl rfl rfl sz_Piece rfl ?_; clear hM; intro W hM; simp only [zF, zE] at hM) | (refine wpList_store_mem rfl 87 _ _ rfl 3 _ _ _ _ hM rfl rfl rfl rfl sz_Piece rfl ?_; clear hM; intro W hM; simp only [zF, zE] at hM))
  | ((with_reducible refine at_load_ ?_); refine at_wanted_ (by rfl) ?_; first | (refine lM 0 hM rfl rfl rfl (by first | rfl | assumption) ?_) | (refine lM 1 hM rfl rfl rfl (by first | rfl | assumption) ?_) | (refine lM 2 hM rfl rfl rfl (by first | rfl | assumption) ?_) | (refine lM 3 hM rfl rfl rfl (by first | rfl | assumption) ?_))
  | ((with_reducible refine at_store_ ?_); first | (refine sM 0 hM rfl rfl rfl ?_; clear hM; intro W hM; simp only [zF, zE] at hM) | (refine sM 1 hM rfl rfl rfl ?_; clear hM; intro W hM; simp only [zF, zE] at hM) | (refine sM 2 hM rfl rfl rfl ?_; clear hM; intro W hM; simp only [zF, zE] at hM) | (refine sM 3 hM rfl rfl rfl ?_; clear hM; intro W hM; simp only [zF, zE] at hM)))
 have hcz := hM.cells 0 rfl
 refine bodyPost_ret (v := .tuple #[.agg (cPiece p).toArray, .bool is]) (by simp [results, Try.results36, go_sem, hcz, cPiece]) rfl ?_
 exact ⟨rfl, hM.b⟩
end Go.Proofs.Ytfpifahkpkjfgaa
