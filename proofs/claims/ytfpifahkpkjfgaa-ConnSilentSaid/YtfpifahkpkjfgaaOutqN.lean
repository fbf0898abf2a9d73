/- The contract of outq's Next. -/
import Derived.Test.YtfpifahkpkjfgaaOutqW
import Derived.Test.YtfpifahkpkjfgaaOutqI
namespace Go.Proofs.Ytfpifahkpkjfgaa
open Go.RowKit Go.Lib
set_option linter.unusedVariables false

theorem oPiece_sz (q : OQ) (lim mss : Int) (ok : OqOk q) : (qPiece q q.cur lim mss).b.size ≤ 2048 := by
  unfold qPiece
  split
  · split
    · show (0 : Nat) ≤ 2048; omega
    · show (byteS _).size ≤ 2048
      rw [byteS_sz]
      unfold oBody
      split
      · have := ok.len
        rw [List.length_take, List.length_drop]; omega
      · simp
  · show (0 : Nat) ≤ 2048; omega
theorem oLen_hi (p : KPiece) (h : p.b.size ≤ 2048) : oLen p ≤ 2050 := by unfold oLen; split <;> split <;> omega
set_option maxRecDepth 100000 in
set_option maxHeartbeats 2000000 in
theorem oNext_any (g : Nat) (q : OQ) (v : Value) (lim mss : Int) (w : World) (hM : OPre w w g v q v) (ok : OqOk q) (hb2 : q.base ≤ 4611686018427387904)
    (hl : -9223372036854775808 ≤ lim ∧ lim ≤ 9223372036854775807) (hm : -9223372036854775808 ≤ mss ∧ mss ≤ 9223372036854775807) :
    Calls Try.prog 40 #[.pointer (some ⟨g, 0, none⟩), .int .i64 lim, .int .i64 mss] w fun e w' => e = .returned (.tuple #[.agg (cPiece (qPiece q q.cur lim mss)).toArray, .bool (oIs q q.cur lim mss)]) ∧ OPre w w' g v (oNext q lim mss) v := by
  have HP := Lib.hid (fun W (hA : OAt W g q v) (hV : OwnB W 0 v q.l) => piece_any g q v lim mss W hA hV ok hb2 hl hm)
  have hsz := oPiece_sz q lim mss ok
  have HQ : oNext q lim mss = { q with cur := q.cur + oLen (qPiece q q.cur lim mss), sent := if q.sent < q.cur + oLen (qPiece q q.cur lim mss) then q.cur + oLen (qPiece q q.cur lim mss) else q.sent } := rfl
  have hcb : 0 ≤ q.cur ∧ q.cur ≤ 4611686018427390000 := by
    have := ok.uc; have := ok.cs; have := ok.se; have := ok.ee; have := ok.len; have := qEnd_bd (q := q); unfold oFin at this; omega
  generalize qPiece q q.cur lim mss = p at *
  generalize oIs q q.cur lim mss = is at *
  have h1 := oLen_lo p
  have h2 := oLen_hi p hsz
  have LN := Lib.hid (fun W => length_any p W (by omega))
  generalize oLen p = n at *
  have HHQ := Lib.hid HQ
  clear ok HQ hl hm
  go_enter Try.func40, Try.ntmps40
  go_upto_region 2 with         (first
          | go_skip
          | (go_at_call 62; go_must (refine (HP.out _ (hM.at_ 0 rfl) (hM.own 1 rfl)).mono ?_; rintro e W ⟨rfl, hb⟩); replace hM := hM.kept hb; clear hb)
          | ((with_reducible refine at_box_ ?_); refine wpList_box_mem rfl _ _ rfl _ rfl hM ?_; clear hM; intro gb W hM; first | (simp only [List.nil_append] at hM) | (simp only [List.cons_append, List.nil_append] at hM))
          | ((with_reducible refine at_alloc_ (T := 87) ?_); refine wpList_alloc_mem rfl 87 rfl _ zv_Piece _ rfl hM ?_; clear hM; intro gb W hM; first | (simp only [List.nil_append] at hM) | (simp only [List.cons_append, List.nil_append] at hM))
          | ((with_reducible refine at_load_ (T := 87) ?_); refine at_wanted_ (by rfl) ?_; first | (refine wpList_loadg_mem (by go_simp) 87 _ rfl 0 _ _ _ hM rfl rfl _ Try.underlying87 rfl sz_Piece ?_) | (refine wpList_loadg_mem (by go_simp) 87 _ rfl 1 _ _ _ hM rfl rfl _ Try.underlying87 rfl sz_Piece ?_) | (refine wpList_loadg_mem (by go_simp) 87 _ rfl 2 _ _ _ hM rfl rfl _ Try.underlying87 rfl sz_Piece ?_) | (refine wpList_loadg_mem (by go_simp) 87 _ rfl 3 _ _ _ hM rfl rfl _ Try.underlying87 rfl sz_Piece ?_))
          | ((with_reducible refine at_store_ (T := 87) ?_); first | (refine wpList_store_mem rfl 87 _ _ rfl 0 _ _ _ _ hM rfl rfl rfl rfl sz_Piece rfl ?_; clear hM; intro W hM; simp only [List.set_cons_zero] at hM) | (refine wpList_store_mem rfl 87 _ _ rfl 1 _ _ _ _ hM rfl rfl rfl rfl sz_Piece rfl ?_; clear hM; intro W hM; simp only [List.set_cons_succ, List.set_cons_zero] at hM) | (refine wpList_store_mem rfl 87 _ _ rfl 2 _ _ _ _ hM rfl rfl rfl rfl sz_Piece rfl ?_; clear hM; intro W hM; simp only [List.set_cons_succ, List.set_cons_zero] at hM) | (refine wpList_store_mem rfl 87 _ _ rfl 3 _ _ _ _ hM rfl rfl rfl rfl sz_Piece rfl ?_; clear hM; intro W hM; simp only [List.set_cons_succ, List.set_cons_zero] at hM))
          | ((with_reducible refine at_load_ ?_); refine at_wanted_ (by rfl) ?_; first | (refine wpList_loadf_mem (by go_simp) _ _ rfl (by kernel_rfl) 0 _ _ _ _ _ hM rfl rfl (by first | rfl | assumption) ?_) | (refine wpList_loadf_mem (by go_simp) _ _ rfl (by kernel_rfl) 1 _ _ _ _ _ hM rfl rfl (by first | rfl | assumption) ?_) | (refine wpList_loadf_mem (by go_simp) _ _ rfl (by kernel_rfl) 2 _ _ _ _ _ hM rfl rfl (by first | rfl | assumption) ?_) | (refine wpList_loadf_mem (by go_simp) _ _ rfl (by kernel_rfl) 3 _ _ _ _ _ hM rfl rfl (by first | rfl | assumption) ?_))
          | ((with_reducible refine at_store_ ?_); first | (refine wpList_store1_mem rfl _ _ _ rfl 0 _ _ _ _ _ hM rfl rfl (by first | ((conv => lhs; whnf); done) | ((conv => lhs; whnf); rfl)) (by rfl) (by rfl) (by kernel_rfl) rfl ?_; clear hM; intro W hM; simp only [List.set_cons_succ, List.set_cons_zero] at hM) | (refine wpList_store1_mem rfl _ _ _ rfl 1 _ _ _ _ _ hM rfl rfl (by first | ((conv => lhs; whnf); done) | ((conv => lhs; whnf); rfl)) (by rfl) (by rfl) (by kernel_rfl) rfl ?_; clear hM; intro W hM; simp only [List.set_cons_succ, List.set_cons_zero] at hM) | (refine wpList_store1_mem rfl _ _ _ rfl 2 _ _ _ _ _ hM rfl rfl (by first | ((conv => lhs; whnf); done) | ((conv => lhs; whnf); rfl)) (by rfl) (by rfl) (by kernel_rfl) rfl ?_; clear hM; intro W hM; simp only [List.set_cons_succ, List.set_cons_zero] at hM) | (refine wpList_store1_mem rfl _ _ _ rfl 3 _ _ _ _ _ hM rfl rfl (by first | ((conv => lhs; whnf); done) | ((conv => lhs; whnf); rfl)) (by rfl) (by rfl) (by kernel_rfl) rfl ?_; clear hM; intro W hM; simp only [List.set_cons_succ, List.set_cons_zero] at hM)))
  have c0 := hM.cells 0 rfl
  have l0 := hM.lt 0 rfl
  have c3 := hM.cells 3 rfl
  have l3 := hM.lt 3 rfl
  simp only [oqC] at c0
  simp only [cPiece] at c3
  refine wp_region_later_tail 9 (by kernel_rfl) (by kernel_rfl) (fun hlc => ?_)
  simp only [List.take_succ_cons, List.take_zero, List.drop_succ_cons, List.drop_zero]
  repeat (go_big_quiet_step ((go_at_call 65; exact later_call (LN.out _))))
  refine wpQuiet_nil ?_
  intro wq hbq
  clear hlc c0 c3 l0 l3
  replace hM := hM.kept hbq
  clear hbq
  go_upto_region 3 with         (first
          | go_skip
          | ((with_reducible refine at_box_ ?_); refine wpList_box_mem rfl _ _ rfl _ rfl hM ?_; clear hM; intro gb W hM; first | (simp only [List.nil_append] at hM) | (simp only [List.cons_append, List.nil_append] at hM))
          | ((with_reducible refine at_load_ ?_); refine at_wanted_ (by rfl) ?_; refine wpList_loadf_mem (by go_simp) _ _ rfl (by kernel_rfl) 0 _ _ _ _ _ hM rfl rfl (by first | rfl | assumption) ?_)
          | ((with_reducible refine at_store_ ?_); refine wpList_store1_mem rfl _ _ _ rfl 0 _ _ _ _ _ hM rfl rfl (by first | ((conv => lhs; whnf); done) | ((conv => lhs; whnf); rfl)) (by rfl) (by rfl) (by kernel_rfl) rfl ?_; clear hM; intro W hM; simp only [oqA, oqB, oqC, List.set_cons_succ, List.set_cons_zero] at hM))
  have c0 := hM.cells 0 rfl
  have l0 := hM.lt 0 rfl
  simp only [Act.put]
  refine wp_region_later_tail 12 (by kernel_rfl) (by kernel_rfl) (fun hlc => ?_)
  simp only [List.take_succ_cons, List.take_zero, List.drop_succ_cons, List.drop_zero]
  repeat (go_big_quiet_step (fail))
  refine wpQuiet_nil ?_
  intro wq hbq
  clear hlc c0 l0
  replace hM := hM.kept hbq
  clear hbq
  go_wp2_with (first
    | go_skip
    | ((with_reducible refine at_box_ ?_); refine wpList_box_mem rfl _ _ rfl _ rfl hM ?_; clear hM; intro gb W hM; first | (simp only [List.nil_append] at hM) | (simp only [List.cons_append, List.nil_append] at hM))
    | ((with_reducible refine at_alloc_ (T := 87) ?_); refine wpList_alloc_mem rfl 87 rfl _ zv_Piece _ rfl hM ?_; clear hM; intro gb W hM; first | (simp only [List.nil_append] at hM) | (simp only [List.cons_append, List.nil_append] at hM))
    | ((with_reducible refine at_load_ (T := 87) ?_); refine at_wanted_ (by rfl) ?_; first | (refine wpList_loadg_mem (by go_simp) 87 _ rfl 0 _ _ _ hM rfl rfl _ Try.underlying87 rfl sz_Piece ?_) | (refine wpList_loadg_mem (by go_simp) 87 _ rfl 1 _ _ _ hM rfl rfl _ Try.underlying87 rfl sz_Piece ?_) | (refine wpList_loadg_mem (by go_simp) 87 _ rfl 2 _ _ _ hM rfl rfl _ Try.underlying87 rfl sz_Piece ?_) | (refine wpList_loadg_mem (by go_simp) 87 _ rfl 3 _ _ _ hM rfl rfl _ Try.underlying87 rfl sz_Piece ?_))
    | ((with_reducible refine at_store_ (T := 87) ?_); first | (refine wpList_store_mem rfl 87 _ _ rfl 0 _ _ _ _ hM rfl rfl rfl rfl sz_Piece rfl ?_; clear hM; intro W hM; simp only [List.set_cons_zero] at hM) | (refine wpList_store_mem rfl 87 _ _ rfl 1 _ _ _ _ hM rfl rfl rfl rfl sz_Piece rfl ?_; clear hM; intro W hM; simp only [List.set_cons_succ, List.set_cons_zero] at hM) | (refine wpList_store_mem rfl 87 _ _ rfl 2 _ _ _ _ hM rfl rfl rfl rfl sz_Piece rfl ?_; clear hM; intro W hM; simp only [List.set_cons_succ, List.set_cons_zero] at hM) | (refine wpList_store_mem rfl 87 _ _ rfl 3 _ _ _ _ hM rfl rfl rfl rfl sz_Piece rfl ?_; clear hM; intro W hM; simp only [List.set_cons_succ, List.set_cons_zero] at hM))
    | ((with_reducible refine at_load_ ?_); refine at_wanted_ (by rfl) ?_; first | (refine wpList_loadf_mem (by go_simp) _ _ rfl (by kernel_rfl) 0 _ _ _ _ _ hM rfl rfl (by first | rfl | assumption) ?_) | (refine wpList_loadf_mem (by go_simp) _ _ rfl (by kernel_rfl) 1 _ _ _ _ _ hM rfl rfl (by first | rfl | assumption) ?_) | (refine wpList_loadf_mem (by go_simp) _ _ rfl (by kernel_rfl) 2 _ _ _ _ _ hM rfl rfl (by first | rfl | assumption) ?_) | (refine wpList_loadf_mem (by go_simp) _ _ rfl (by kernel_rfl) 3 _ _ _ _ _ hM rfl rfl (by first | rfl | assumption) ?_))
    | ((with_reducible refine at_store_ ?_); first | (refine wpList_store1_mem rfl _ _ _ rfl 0 _ _ _ _ _ hM rfl rfl (by first | ((conv => lhs; whnf); done) | ((conv => lhs; whnf); rfl)) (by rfl) (by rfl) (by kernel_rfl) rfl ?_; clear hM; intro W hM; simp only [List.set_cons_succ, List.set_cons_zero] at hM) | (refine wpList_store1_mem rfl _ _ _ rfl 1 _ _ _ _ _ hM rfl rfl (by first | ((conv => lhs; whnf); done) | ((conv => lhs; whnf); rfl)) (by rfl) (by rfl) (by kernel_rfl) rfl ?_; clear hM; intro W hM; simp only [List.set_cons_succ, List.set_cons_zero] at hM) | (refine wpList_store1_mem rfl _ _ _ rfl 2 _ _ _ _ _ hM rfl rfl (by first | ((conv => lhs; whnf); done) | ((conv => lhs; whnf); rfl)) (by rfl) (by rfl) (by kernel_rfl) rfl ?_; clear hM; intro W hM; simp only [List.set_cons_succ, List.set_cons_zero] at hM) | (refine wpList_store1_mem rfl _ _ _ rfl 3 _ _ _ _ _ hM rfl rfl (by first | ((conv => lhs; whnf); done) | ((conv => lhs; whnf); rfl)) (by rfl) (by rfl) (by kernel_rfl) rfl ?_; clear hM; intro W hM; simp only [List.set_cons_succ, List.set_cons_zero] at hM)))
  all_goals
    have hcz := hM.cells 2 rfl
    refine bodyPost_ret (v := .tuple #[.agg (cPiece p).toArray, .bool is]) (by simp [results, Try.results40, go_sem, hcz, cPiece]) rfl ?_
    refine ⟨rfl, ?_⟩
    rw [HHQ.out]
    exact hM.take_ 2
end Go.Proofs.Ytfpifahkpkjfgaa
