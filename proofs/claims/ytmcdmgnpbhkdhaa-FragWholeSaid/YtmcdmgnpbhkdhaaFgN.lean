/- frag: In, where nothing is put. Written by my genfg.py. -/
import Derived.Test.YtmcdmgnpbhkdhaaFgI
import Derived.Test.YtmcdmgnpbhkdhaaMapR
import Derived.IntWalk
import Derived.Test.YtmcdmgnpbhkdhaaBits
import Derived.Test.YtmcdmgnpbhkdhaaOrdC
namespace Go.Proofs.Ytmcdmgnpbhkdhaa
open Go.RowKit Go.Lib
set_option linter.unusedVariables false
set_option linter.unusedSimpArgs false


theorem fg_last {E : Nat → Prop} {w W : World} {l : List Res} {A : Res} (h : MemX E w W (l ++ [A])) : MemX E w W (A :: l) := h.perm List.perm_append_comm
structure PkLim (p : Pk) : Prop where
  ok : PkOk p
  b : p.b.size ≤ 140737488351232

set_option maxRecDepth 100000 in
set_option maxHeartbeats 8000000 in
theorem In_early (g gm : Nat) (es : List FE) (p : Pk) (w : World) (hM0 : MemX (blkE (fgL g gm es)) w w (fgL g gm es)) (hL : PkLim p) (hc : ipChk p ≠ 0) :
    Calls Try.prog 36 #[.pointer (some ⟨g, 0, none⟩), .agg (pkC p).toArray] w fun e w' => e = .returned (.tuple #[.agg (pkC zPk).toArray, .bool false, .int .i64 (ipChk p)]) ∧ MemX (blkE (fgL g gm es)) w w' (fgL g gm es) := by
  generalize hcc : ipChk p = cc at *
  have HCC := Lib.hid hcc
  have hM : MemX (blkE (fgL g gm es)) w w (fgL g gm es) := hM0
  generalize blkE (fgL g gm es) = E at *
  clear hM0
  have hsz := hL.b
  have HC := Lib.hid (fun W => ipCheck_any p W hL.ok)
  obtain ⟨ps, pd, pr, ptl, pid, df, mf, off, pb⟩ := p
  simp only [pkC] at *
  go_enter Try.func36, Try.ntmps36
  go_upto_region 1 with (first | go_skip | ((with_reducible refine at_box_ ?_); refine wpList_box_mem rfl _ _ rfl [.int .u32 ps, .int .u32 pd, .int .i64 pr, .int .i64 ptl, .int .i64 pid, .bool df, .bool mf, .int .i64 off, .string pb] rfl hM ?_; clear hM; intro gp W hM; replace hM := fg_last hM) | ((with_reducible refine at_alloc_ (T := 40) ?_); refine wpList_alloc_mem rfl 40 rfl _ zv_Packet _ rfl hM ?_; clear hM; intro g4 W hM; replace hM := fg_last hM))
  replace hM : MemX E w W (atR g4 40 zPacket :: atR gp 40 [.int .u32 ps, .int .u32 pd, .int .i64 pr, .int .i64 ptl, .int .i64 pid, .bool df, .bool mf, .int .i64 off, .string pb] :: tbR g gm :: mpR gm es :: es.map eR) := hM
  rw [hcc] at HC
  clear hcc
  have hcb : (cc != 0) = true := by simpa using hc
  have c1 := hM.cells 1 rfl
  have l1 := hM.lt 1 rfl
  go_upto_region 1 with (fail)
  refine wp_region_later (by kernel_rfl) (by kernel_rfl) (fun hlc => ?_)
  repeat (go_big_quiet_step (first | (go_at_call 49; exact later_call (HC.out _))))
  refine wpQuiet_nil ?_
  intro wq hbq
  clear hlc c1 l1 HC
  replace hM := hM.kept hbq
  clear hbq
  clear hc
  go_wp2_with (first
    | go_skip
    | ((with_reducible refine at_box_ ?_); refine wpList_box_mem rfl _ _ rfl _ rfl hM ?_; clear hM; intro gb W hM; first | (simp only [List.nil_append] at hM) | (simp only [List.cons_append, List.nil_append] at hM))
    | ((with_reducible refine at_alloc_ (T := 40) ?_); refine wpList_alloc_mem rfl 40 rfl _ zv_Packet _ rfl hM ?_; clear hM; intro gb W hM; first | (simp only [List.nil_append] at hM) | (simp only [List.cons_append, List.nil_append] at hM))
    | ((with_reducible refine at_load_ (T := 40) ?_); refine at_wanted_ (by rfl) ?_; refine wpList_loadg_mem (by go_simp) 40 _ rfl 0 _ _ _ hM rfl rfl _ Try.underlying40 rfl sz_Packet ?_)
    | ((with_reducible refine at_store_ (T := 40) ?_); refine wpList_store_mem rfl 40 _ _ rfl 0 _ _ _ _ hM rfl rfl rfl rfl sz_Packet rfl ?_; clear hM; intro W hM; simp only [List.set_cons_zero] at hM)
    | ((with_reducible refine at_load_ ?_); refine at_wanted_ (by rfl) ?_; refine wpList_loadf_mem (by go_simp) _ _ rfl (by kernel_rfl) 0 _ _ _ _ _ hM rfl rfl (by first | rfl | assumption) ?_)
    | ((with_reducible refine at_store_ ?_); refine wpList_store1_mem rfl _ _ _ rfl 0 _ _ _ _ _ hM rfl rfl (by first | ((conv => lhs; whnf); done) | ((conv => lhs; whnf); rfl)) (by rfl) (by rfl) (by kernel_rfl) rfl ?_; clear hM; intro W hM; simp only [List.set_cons_succ, List.set_cons_zero] at hM))
  have c0 := hM.cells 0 rfl
  (try simp only [zPacket] at c0)
  refine bodyPost_ret (v := .tuple #[.agg (pkC zPk).toArray, .bool false, .int .i64 cc]) (by simp [results, Try.results36, go_sem, c0, pkC, zPk]) rfl ⟨rfl, ?_⟩
  exact (show MemX E w _ ([_, _] ++ fgL g gm es) from hM).drop_

set_option maxRecDepth 100000 in
set_option maxHeartbeats 8000000 in
theorem In_sole (g gm : Nat) (es : List FE) (p : Pk) (w : World) (hM0 : MemX (blkE (fgL g gm es)) w w (fgL g gm es)) (hL : PkLim p) (hc : ipChk p = 0) (hmf : p.mf = false) (hoff : p.off = 0) :
    Calls Try.prog 36 #[.pointer (some ⟨g, 0, none⟩), .agg (pkC p).toArray] w fun e w' => e = .returned (.tuple #[.agg (pkC p).toArray, .bool true, .int .i64 0]) ∧ MemX (blkE (fgL g gm es)) w w' (fgL g gm es) := by
  obtain ⟨_, _, _, hof, hbs⟩ := ipChk_ok hc
  have hM : MemX (blkE (fgL g gm es)) w w (fgL g gm es) := hM0
  generalize blkE (fgL g gm es) = E at *
  clear hM0
  have hsz := hL.b
  have HC := Lib.hid (fun W => ipCheck_any p W hL.ok)
  obtain ⟨ps, pd, pr, ptl, pid, df, mf, off, pb⟩ := p
  simp only [pkC] at *
  go_enter Try.func36, Try.ntmps36
  go_upto_region 1 with (first | go_skip | ((with_reducible refine at_box_ ?_); refine wpList_box_mem rfl _ _ rfl [.int .u32 ps, .int .u32 pd, .int .i64 pr, .int .i64 ptl, .int .i64 pid, .bool df, .bool mf, .int .i64 off, .string pb] rfl hM ?_; clear hM; intro gp W hM; replace hM := fg_last hM) | ((with_reducible refine at_alloc_ (T := 40) ?_); refine wpList_alloc_mem rfl 40 rfl _ zv_Packet _ rfl hM ?_; clear hM; intro g4 W hM; replace hM := fg_last hM))
  replace hM : MemX E w W (atR g4 40 zPacket :: atR gp 40 [.int .u32 ps, .int .u32 pd, .int .i64 pr, .int .i64 ptl, .int .i64 pid, .bool df, .bool mf, .int .i64 off, .string pb] :: tbR g gm :: mpR gm es :: es.map eR) := hM
  rw [hc] at HC
  clear hc
  have w1 : IntKind.i64.wrap (8 * off) = 8 * off := IntWalk.i64_in _ (by omega)
  (try simp only at hmf hoff)
  subst hmf hoff
  have c1 := hM.cells 1 rfl
  have l1 := hM.lt 1 rfl
  go_upto_region 1 with (fail)
  refine wp_region_later (by kernel_rfl) (by kernel_rfl) (fun hlc => ?_)
  repeat (go_big_quiet_step (first | (go_at_call 49; exact later_call (HC.out _))))
  refine wpQuiet_nil ?_
  intro wq hbq
  clear hlc c1 l1 HC
  replace hM := hM.kept hbq
  clear hbq
  clear w1
  go_wp2_with (first
    | go_skip
    | ((with_reducible refine at_box_ ?_); refine wpList_box_mem rfl _ _ rfl _ rfl hM ?_; clear hM; intro gb W hM; first | (simp only [List.nil_append] at hM) | (simp only [List.cons_append, List.nil_append] at hM))
    | ((with_reducible refine at_alloc_ (T := 40) ?_); refine wpList_alloc_mem rfl 40 rfl _ zv_Packet _ rfl hM ?_; clear hM; intro gb W hM; first | (simp only [List.nil_append] at hM) | (simp only [List.cons_append, List.nil_append] at hM))
    | ((with_reducible refine at_load_ (T := 40) ?_); refine at_wanted_ (by rfl) ?_; first | (refine wpList_loadg_mem (by go_simp) 40 _ rfl 0 _ _ _ hM rfl rfl _ Try.underlying40 rfl sz_Packet ?_) | (refine wpList_loadg_mem (by go_simp) 40 _ rfl 1 _ _ _ hM rfl rfl _ Try.underlying40 rfl sz_Packet ?_))
    | ((with_reducible refine at_store_ (T := 40) ?_); first | (refine wpList_store_mem rfl 40 _ _ rfl 0 _ _ _ _ hM rfl rfl rfl rfl sz_Packet rfl ?_; clear hM; intro W hM; simp only [List.set_cons_zero] at hM) | (refine wpList_store_mem rfl 40 _ _ rfl 1 _ _ _ _ hM rfl rfl rfl rfl sz_Packet rfl ?_; clear hM; intro W hM; simp only [List.set_cons_succ, List.set_cons_zero] at hM))
    | ((with_reducible refine at_load_ ?_); refine at_wanted_ (by rfl) ?_; first | (refine wpList_loadf_mem (by go_simp) _ _ rfl (by kernel_rfl) 0 _ _ _ _ _ hM rfl rfl (by first | rfl | assumption) ?_) | (refine wpList_loadf_mem (by go_simp) _ _ rfl (by kernel_rfl) 1 _ _ _ _ _ hM rfl rfl (by first | rfl | assumption) ?_))
    | ((with_reducible refine at_store_ ?_); first | (refine wpList_store1_mem rfl _ _ _ rfl 0 _ _ _ _ _ hM rfl rfl (by first | ((conv => lhs; whnf); done) | ((conv => lhs; whnf); rfl)) (by rfl) (by rfl) (by kernel_rfl) rfl ?_; clear hM; intro W hM; simp only [List.set_cons_succ, List.set_cons_zero] at hM) | (refine wpList_store1_mem rfl _ _ _ rfl 1 _ _ _ _ _ hM rfl rfl (by first | ((conv => lhs; whnf); done) | ((conv => lhs; whnf); rfl)) (by rfl) (by rfl) (by kernel_rfl) rfl ?_; clear hM; intro W hM; simp only [List.set_cons_succ, List.set_cons_zero] at hM)))
  have c0 := hM.cells 0 rfl
  refine bodyPost_ret (v := .tuple #[.agg (pkC ⟨ps, pd, pr, ptl, pid, df, false, 0, pb⟩).toArray, .bool true, .int .i64 0]) (by simp [results, Try.results36, go_sem, c0, pkC, zPk]) rfl ⟨rfl, ?_⟩
  exact (show MemX E w _ ([_, _] ++ fgL g gm es) from hM).drop_

set_option maxRecDepth 100000 in
set_option maxHeartbeats 8000000 in
theorem In_form0 (g gm : Nat) (es : List FE) (p : Pk) (w : World) (hM0 : MemX (blkE (fgL g gm es)) w w (fgL g gm es)) (hL : PkLim p) (hc : ipChk p = 0) (hmf : p.mf = true) (hs : p.b.size = 0) :
    Calls Try.prog 36 #[.pointer (some ⟨g, 0, none⟩), .agg (pkC p).toArray] w fun e w' => e = .returned (.tuple #[.agg (pkC zPk).toArray, .bool false, .int .i64 4]) ∧ MemX (blkE (fgL g gm es)) w w' (fgL g gm es) := by
  obtain ⟨_, _, _, hof, hbs⟩ := ipChk_ok hc
  have hM : MemX (blkE (fgL g gm es)) w w (fgL g gm es) := hM0
  generalize blkE (fgL g gm es) = E at *
  clear hM0
  have hsz := hL.b
  have HC := Lib.hid (fun W => ipCheck_any p W hL.ok)
  obtain ⟨ps, pd, pr, ptl, pid, df, mf, off, pb⟩ := p
  simp only [pkC] at *
  go_enter Try.func36, Try.ntmps36
  go_upto_region 1 with (first | go_skip | ((with_reducible refine at_box_ ?_); refine wpList_box_mem rfl _ _ rfl [.int .u32 ps, .int .u32 pd, .int .i64 pr, .int .i64 ptl, .int .i64 pid, .bool df, .bool mf, .int .i64 off, .string pb] rfl hM ?_; clear hM; intro gp W hM; replace hM := fg_last hM) | ((with_reducible refine at_alloc_ (T := 40) ?_); refine wpList_alloc_mem rfl 40 rfl _ zv_Packet _ rfl hM ?_; clear hM; intro g4 W hM; replace hM := fg_last hM))
  replace hM : MemX E w W (atR g4 40 zPacket :: atR gp 40 [.int .u32 ps, .int .u32 pd, .int .i64 pr, .int .i64 ptl, .int .i64 pid, .bool df, .bool mf, .int .i64 off, .string pb] :: tbR g gm :: mpR gm es :: es.map eR) := hM
  rw [hc] at HC
  clear hc
  have w1 : IntKind.i64.wrap (8 * off) = 8 * off := IntWalk.i64_in _ (by omega)
  (try simp only at hmf hs)
  subst hmf
  have hse := str_none (u := pb) hs
  clear hs
  have c1 := hM.cells 1 rfl
  have l1 := hM.lt 1 rfl
  go_upto_region 1 with (fail)
  refine wp_region_later (by kernel_rfl) (by kernel_rfl) (fun hlc => ?_)
  repeat (go_big_quiet_step (first | (go_at_call 49; exact later_call (HC.out _))))
  refine wpQuiet_nil ?_
  intro wq hbq
  clear hlc c1 l1 HC
  replace hM := hM.kept hbq
  clear hbq
  clear w1
  go_wp2_with (first
    | go_skip
    | ((with_reducible refine at_box_ ?_); refine wpList_box_mem rfl _ _ rfl _ rfl hM ?_; clear hM; intro gb W hM; first | (simp only [List.nil_append] at hM) | (simp only [List.cons_append, List.nil_append] at hM))
    | ((with_reducible refine at_alloc_ (T := 40) ?_); refine wpList_alloc_mem rfl 40 rfl _ zv_Packet _ rfl hM ?_; clear hM; intro gb W hM; first | (simp only [List.nil_append] at hM) | (simp only [List.cons_append, List.nil_append] at hM))
    | ((with_reducible refine at_load_ (T := 40) ?_); refine at_wanted_ (by rfl) ?_; first | (refine wpList_loadg_mem (by go_simp) 40 _ rfl 0 _ _ _ hM rfl rfl _ Try.underlying40 rfl sz_Packet ?_) | (refine wpList_loadg_mem (by go_simp) 40 _ rfl 1 _ _ _ hM rfl rfl _ Try.underlying40 rfl sz_Packet ?_))
    | ((with_reducible refine at_store_ (T := 40) ?_); first | (refine wpList_store_mem rfl 40 _ _ rfl 0 _ _ _ _ hM rfl rfl rfl rfl sz_Packet rfl ?_; clear hM; intro W hM; simp only [List.set_cons_zero] at hM) | (refine wpList_store_mem rfl 40 _ _ rfl 1 _ _ _ _ hM rfl rfl rfl rfl sz_Packet rfl ?_; clear hM; intro W hM; simp only [List.set_cons_succ, List.set_cons_zero] at hM))
    | ((with_reducible refine at_load_ ?_); refine at_wanted_ (by rfl) ?_; first | (refine wpList_loadf_mem (by go_simp) _ _ rfl (by kernel_rfl) 0 _ _ _ _ _ hM rfl rfl (by first | rfl | assumption) ?_) | (refine wpList_loadf_mem (by go_simp) _ _ rfl (by kernel_rfl) 1 _ _ _ _ _ hM rfl rfl (by first | rfl | assumption) ?_))
    | ((with_reducible refine at_store_ ?_); first | (refine wpList_store1_mem rfl _ _ _ rfl 0 _ _ _ _ _ hM rfl rfl (by first | ((conv => lhs; whnf); done) | ((conv => lhs; whnf); rfl)) (by rfl) (by rfl) (by kernel_rfl) rfl ?_; clear hM; intro W hM; simp only [List.set_cons_succ, List.set_cons_zero] at hM) | (refine wpList_store1_mem rfl _ _ _ rfl 1 _ _ _ _ _ hM rfl rfl (by first | ((conv => lhs; whnf); done) | ((conv => lhs; whnf); rfl)) (by rfl) (by rfl) (by kernel_rfl) rfl ?_; clear hM; intro W hM; simp only [List.set_cons_succ, List.set_cons_zero] at hM)))
  have c0 := hM.cells 0 rfl
  (try simp only [zPacket] at c0)
  refine bodyPost_ret (v := .tuple #[.agg (pkC zPk).toArray, .bool false, .int .i64 4]) (by simp [results, Try.results36, go_sem, c0, pkC, zPk]) rfl ⟨rfl, ?_⟩
  exact (show MemX E w _ ([_, _] ++ fgL g gm es) from hM).drop_

set_option maxRecDepth 100000 in
set_option maxHeartbeats 8000000 in
theorem In_form8 (g gm : Nat) (es : List FE) (p : Pk) (w : World) (hM0 : MemX (blkE (fgL g gm es)) w w (fgL g gm es)) (hL : PkLim p) (hc : ipChk p = 0) (hmf : p.mf = true) (hs : p.b.size % 8 ≠ 0) :
    Calls Try.prog 36 #[.pointer (some ⟨g, 0, none⟩), .agg (pkC p).toArray] w fun e w' => e = .returned (.tuple #[.agg (pkC zPk).toArray, .bool false, .int .i64 4]) ∧ MemX (blkE (fgL g gm es)) w w' (fgL g gm es) := by
  obtain ⟨_, _, _, hof, hbs⟩ := ipChk_ok hc
  have hM : MemX (blkE (fgL g gm es)) w w (fgL g gm es) := hM0
  generalize blkE (fgL g gm es) = E at *
  clear hM0
  have hsz := hL.b
  have HC := Lib.hid (fun W => ipCheck_any p W hL.ok)
  obtain ⟨ps, pd, pr, ptl, pid, df, mf, off, pb⟩ := p
  simp only [pkC] at *
  go_enter Try.func36, Try.ntmps36
  go_upto_region 1 with (first | go_skip | ((with_reducible refine at_box_ ?_); refine wpList_box_mem rfl _ _ rfl [.int .u32 ps, .int .u32 pd, .int .i64 pr, .int .i64 ptl, .int .i64 pid, .bool df, .bool mf, .int .i64 off, .string pb] rfl hM ?_; clear hM; intro gp W hM; replace hM := fg_last hM) | ((with_reducible refine at_alloc_ (T := 40) ?_); refine wpList_alloc_mem rfl 40 rfl _ zv_Packet _ rfl hM ?_; clear hM; intro g4 W hM; replace hM := fg_last hM))
  replace hM : MemX E w W (atR g4 40 zPacket :: atR gp 40 [.int .u32 ps, .int .u32 pd, .int .i64 pr, .int .i64 ptl, .int .i64 pid, .bool df, .bool mf, .int .i64 off, .string pb] :: tbR g gm :: mpR gm es :: es.map eR) := hM
  rw [hc] at HC
  clear hc
  have w1 : IntKind.i64.wrap (8 * off) = 8 * off := IntWalk.i64_in _ (by omega)
  (try simp only at hmf hs)
  subst hmf
  have hse := str_some (u := pb) (by omega)
  have h8 : (((pb.size : Int) % 8) != 0) = true := by simp; omega
  clear hs
  have c1 := hM.cells 1 rfl
  have l1 := hM.lt 1 rfl
  go_upto_region 1 with (fail)
  refine wp_region_later (by kernel_rfl) (by kernel_rfl) (fun hlc => ?_)
  repeat (go_big_quiet_step (first | (go_at_call 49; exact later_call (HC.out _))))
  refine wpQuiet_nil ?_
  intro wq hbq
  clear hlc c1 l1 HC
  replace hM := hM.kept hbq
  clear hbq
  clear w1
  go_wp2_with (first
    | go_skip
    | ((with_reducible refine at_box_ ?_); refine wpList_box_mem rfl _ _ rfl _ rfl hM ?_; clear hM; intro gb W hM; first | (simp only [List.nil_append] at hM) | (simp only [List.cons_append, List.nil_append] at hM))
    | ((with_reducible refine at_alloc_ (T := 40) ?_); refine wpList_alloc_mem rfl 40 rfl _ zv_Packet _ rfl hM ?_; clear hM; intro gb W hM; first | (simp only [List.nil_append] at hM) | (simp only [List.cons_append, List.nil_append] at hM))
    | ((with_reducible refine at_load_ (T := 40) ?_); refine at_wanted_ (by rfl) ?_; first | (refine wpList_loadg_mem (by go_simp) 40 _ rfl 0 _ _ _ hM rfl rfl _ Try.underlying40 rfl sz_Packet ?_) | (refine wpList_loadg_mem (by go_simp) 40 _ rfl 1 _ _ _ hM rfl rfl _ Try.underlying40 rfl sz_Packet ?_))
    | ((with_reducible refine at_store_ (T := 40) ?_); first | (refine wpList_store_mem rfl 40 _ _ rfl 0 _ _ _ _ hM rfl rfl rfl rfl sz_Packet rfl ?_; clear hM; intro W hM; simp only [List.set_cons_zero] at hM) | (refine wpList_store_mem rfl 40 _ _ rfl 1 _ _ _ _ hM rfl rfl rfl rfl sz_Packet rfl ?_; clear hM; intro W hM; simp only [List.set_cons_succ, List.set_cons_zero] at hM))
    | ((with_reducible refine at_load_ ?_); refine at_wanted_ (by rfl) ?_; first | (refine wpList_loadf_mem (by go_simp) _ _ rfl (by kernel_rfl) 0 _ _ _ _ _ hM rfl rfl (by first | rfl | assumption) ?_) | (refine wpList_loadf_mem (by go_simp) _ _ rfl (by kernel_rfl) 1 _ _ _ _ _ hM rfl rfl (by first | rfl | assumption) ?_))
    | ((with_reducible refine at_store_ ?_); first | (refine wpList_store1_mem rfl _ _ _ rfl 0 _ _ _ _ _ hM rfl rfl (by first | ((conv => lhs; whnf); done) | ((conv => lhs; whnf); rfl)) (by rfl) (by rfl) (by kernel_rfl) rfl ?_; clear hM; intro W hM; simp only [List.set_cons_succ, List.set_cons_zero] at hM) | (refine wpList_store1_mem rfl _ _ _ rfl 1 _ _ _ _ _ hM rfl rfl (by first | ((conv => lhs; whnf); done) | ((conv => lhs; whnf); rfl)) (by rfl) (by rfl) (by kernel_rfl) rfl ?_; clear hM; intro W hM; simp only [List.set_cons_succ, List.set_cons_zero] at hM)))
  have c0 := hM.cells 0 rfl
  (try simp only [zPacket] at c0)
  refine bodyPost_ret (v := .tuple #[.agg (pkC zPk).toArray, .bool false, .int .i64 4]) (by simp [results, Try.results36, go_sem, c0, pkC, zPk]) rfl ⟨rfl, ?_⟩
  exact (show MemX E w _ ([_, _] ++ fgL g gm es) from hM).drop_

set_option maxRecDepth 100000 in
set_option maxHeartbeats 8000000 in
theorem In_large0 (g gm : Nat) (es : List FE) (p : Pk) (w : World) (hM0 : MemX (blkE (fgL g gm es)) w w (fgL g gm es)) (hL : PkLim p) (hc : ipChk p = 0) (hmf : p.mf = false) (hoff : p.off ≠ 0) (hlg : 4000 < 8 * p.off + p.b.size) :
    Calls Try.prog 36 #[.pointer (some ⟨g, 0, none⟩), .agg (pkC p).toArray] w fun e w' => e = .returned (.tuple #[.agg (pkC zPk).toArray, .bool false, .int .i64 2]) ∧ MemX (blkE (fgL g gm es)) w w' (fgL g gm es) := by
  obtain ⟨_, _, _, hof, hbs⟩ := ipChk_ok hc
  have hM : MemX (blkE (fgL g gm es)) w w (fgL g gm es) := hM0
  generalize blkE (fgL g gm es) = E at *
  clear hM0
  have hsz := hL.b
  have HC := Lib.hid (fun W => ipCheck_any p W hL.ok)
  obtain ⟨ps, pd, pr, ptl, pid, df, mf, off, pb⟩ := p
  simp only [pkC] at *
  go_enter Try.func36, Try.ntmps36
  go_upto_region 1 with (first | go_skip | ((with_reducible refine at_box_ ?_); refine wpList_box_mem rfl _ _ rfl [.int .u32 ps, .int .u32 pd, .int .i64 pr, .int .i64 ptl, .int .i64 pid, .bool df, .bool mf, .int .i64 off, .string pb] rfl hM ?_; clear hM; intro gp W hM; replace hM := fg_last hM) | ((with_reducible refine at_alloc_ (T := 40) ?_); refine wpList_alloc_mem rfl 40 rfl _ zv_Packet _ rfl hM ?_; clear hM; intro g4 W hM; replace hM := fg_last hM))
  replace hM : MemX E w W (atR g4 40 zPacket :: atR gp 40 [.int .u32 ps, .int .u32 pd, .int .i64 pr, .int .i64 ptl, .int .i64 pid, .bool df, .bool mf, .int .i64 off, .string pb] :: tbR g gm :: mpR gm es :: es.map eR) := hM
  rw [hc] at HC
  clear hc
  have w1 : IntKind.i64.wrap (8 * off) = 8 * off := IntWalk.i64_in _ (by omega)
  (try simp only at hmf hoff hlg)
  subst hmf
  have hofb : (off == 0) = false := by simpa using hoff
  have hle : decide (4000 < 8 * off + (pb.size : Int)) = true := by simpa using hlg
  clear hoff hlg
  have c1 := hM.cells 1 rfl
  have l1 := hM.lt 1 rfl
  go_upto_region 1 with (fail)
  refine wp_region_later (by kernel_rfl) (by kernel_rfl) (fun hlc => ?_)
  repeat (go_big_quiet_step (first | (go_at_call 49; exact later_call (HC.out _))))
  refine wpQuiet_nil ?_
  intro wq hbq
  clear hlc c1 l1 HC
  replace hM := hM.kept hbq
  clear hbq
  clear w1
  go_wp2_with (first
    | go_skip
    | ((with_reducible refine at_box_ ?_); refine wpList_box_mem rfl _ _ rfl _ rfl hM ?_; clear hM; intro gb W hM; first | (simp only [List.nil_append] at hM) | (simp only [List.cons_append, List.nil_append] at hM))
    | ((with_reducible refine at_alloc_ (T := 40) ?_); refine wpList_alloc_mem rfl 40 rfl _ zv_Packet _ rfl hM ?_; clear hM; intro gb W hM; first | (simp only [List.nil_append] at hM) | (simp only [List.cons_append, List.nil_append] at hM))
    | ((with_reducible refine at_load_ (T := 40) ?_); refine at_wanted_ (by rfl) ?_; first | (refine wpList_loadg_mem (by go_simp) 40 _ rfl 0 _ _ _ hM rfl rfl _ Try.underlying40 rfl sz_Packet ?_) | (refine wpList_loadg_mem (by go_simp) 40 _ rfl 1 _ _ _ hM rfl rfl _ Try.underlying40 rfl sz_Packet ?_))
    | ((with_reducible refine at_store_ (T := 40) ?_); first | (refine wpList_store_mem rfl 40 _ _ rfl 0 _ _ _ _ hM rfl rfl rfl rfl sz_Packet rfl ?_; clear hM; intro W hM; simp only [List.set_cons_zero] at hM) | (refine wpList_store_mem rfl 40 _ _ rfl 1 _ _ _ _ hM rfl rfl rfl rfl sz_Packet rfl ?_; clear hM; intro W hM; simp only [List.set_cons_succ, List.set_cons_zero] at hM))
    | ((with_reducible refine at_load_ ?_); refine at_wanted_ (by rfl) ?_; first | (refine wpList_loadf_mem (by go_simp) _ _ rfl (by kernel_rfl) 0 _ _ _ _ _ hM rfl rfl (by first | rfl | assumption) ?_) | (refine wpList_loadf_mem (by go_simp) _ _ rfl (by kernel_rfl) 1 _ _ _ _ _ hM rfl rfl (by first | rfl | assumption) ?_))
    | ((with_reducible refine at_store_ ?_); first | (refine wpList_store1_mem rfl _ _ _ rfl 0 _ _ _ _ _ hM rfl rfl (by first | ((conv => lhs; whnf); done) | ((conv => lhs; whnf); rfl)) (by rfl) (by rfl) (by kernel_rfl) rfl ?_; clear hM; intro W hM; simp only [List.set_cons_succ, List.set_cons_zero] at hM) | (refine wpList_store1_mem rfl _ _ _ rfl 1 _ _ _ _ _ hM rfl rfl (by first | ((conv => lhs; whnf); done) | ((conv => lhs; whnf); rfl)) (by rfl) (by rfl) (by kernel_rfl) rfl ?_; clear hM; intro W hM; simp only [List.set_cons_succ, List.set_cons_zero] at hM)))
  have c0 := hM.cells 0 rfl
  (try simp only [zPacket] at c0)
  refine bodyPost_ret (v := .tuple #[.agg (pkC zPk).toArray, .bool false, .int .i64 2]) (by simp [results, Try.results36, go_sem, c0, pkC, zPk]) rfl ⟨rfl, ?_⟩
  exact (show MemX E w _ ([_, _] ++ fgL g gm es) from hM).drop_

set_option maxRecDepth 100000 in
set_option maxHeartbeats 8000000 in
theorem In_large1 (g gm : Nat) (es : List FE) (p : Pk) (w : World) (hM0 : MemX (blkE (fgL g gm es)) w w (fgL g gm es)) (hL : PkLim p) (hc : ipChk p = 0) (hmf : p.mf = true) (hs : p.b.size % 8 = 0 ∧ 0 < p.b.size) (hlg : 4000 < 8 * p.off + p.b.size) :
    Calls Try.prog 36 #[.pointer (some ⟨g, 0, none⟩), .agg (pkC p).toArray] w fun e w' => e = .returned (.tuple #[.agg (pkC zPk).toArray, .bool false, .int .i64 2]) ∧ MemX (blkE (fgL g gm es)) w w' (fgL g gm es) := by
  obtain ⟨_, _, _, hof, hbs⟩ := ipChk_ok hc
  have hM : MemX (blkE (fgL g gm es)) w w (fgL g gm es) := hM0
  generalize blkE (fgL g gm es) = E at *
  clear hM0
  have hsz := hL.b
  have HC := Lib.hid (fun W => ipCheck_any p W hL.ok)
  obtain ⟨ps, pd, pr, ptl, pid, df, mf, off, pb⟩ := p
  simp only [pkC] at *
  go_enter Try.func36, Try.ntmps36
  go_upto_region 1 with (first | go_skip | ((with_reducible refine at_box_ ?_); refine wpList_box_mem rfl _ _ rfl [.int .u32 ps, .int .u32 pd, .int .i64 pr, .int .i64 ptl, .int .i64 pid, .bool df, .bool mf, .int .i64 off, .string pb] rfl hM ?_; clear hM; intro gp W hM; replace hM := fg_last hM) | ((with_reducible refine at_alloc_ (T := 40) ?_); refine wpList_alloc_mem rfl 40 rfl _ zv_Packet _ rfl hM ?_; clear hM; intro g4 W hM; replace hM := fg_last hM))
  replace hM : MemX E w W (atR g4 40 zPacket :: atR gp 40 [.int .u32 ps, .int .u32 pd, .int .i64 pr, .int .i64 ptl, .int .i64 pid, .bool df, .bool mf, .int .i64 off, .string pb] :: tbR g gm :: mpR gm es :: es.map eR) := hM
  rw [hc] at HC
  clear hc
  have w1 : IntKind.i64.wrap (8 * off) = 8 * off := IntWalk.i64_in _ (by omega)
  (try simp only at hmf hs hlg)
  subst hmf
  have hse := str_some (u := pb) hs.2
  have h8 : (((pb.size : Int) % 8) != 0) = false := by have := hs.1; simp; omega
  have hle : decide (4000 < 8 * off + (pb.size : Int)) = true := by simpa using hlg
  clear hs hlg
  have c1 := hM.cells 1 rfl
  have l1 := hM.lt 1 rfl
  go_upto_region 1 with (fail)
  refine wp_region_later (by kernel_rfl) (by kernel_rfl) (fun hlc => ?_)
  repeat (go_big_quiet_step (first | (go_at_call 49; exact later_call (HC.out _))))
  refine wpQuiet_nil ?_
  intro wq hbq
  clear hlc c1 l1 HC
  replace hM := hM.kept hbq
  clear hbq
  clear w1
  go_wp2_with (first
    | go_skip
    | ((with_reducible refine at_box_ ?_); refine wpList_box_mem rfl _ _ rfl _ rfl hM ?_; clear hM; intro gb W hM; first | (simp only [List.nil_append] at hM) | (simp only [List.cons_append, List.nil_append] at hM))
    | ((with_reducible refine at_alloc_ (T := 40) ?_); refine wpList_alloc_mem rfl 40 rfl _ zv_Packet _ rfl hM ?_; clear hM; intro gb W hM; first | (simp only [List.nil_append] at hM) | (simp only [List.cons_append, List.nil_append] at hM))
    | ((with_reducible refine at_load_ (T := 40) ?_); refine at_wanted_ (by rfl) ?_; first | (refine wpList_loadg_mem (by go_simp) 40 _ rfl 0 _ _ _ hM rfl rfl _ Try.underlying40 rfl sz_Packet ?_) | (refine wpList_loadg_mem (by go_simp) 40 _ rfl 1 _ _ _ hM rfl rfl _ Try.underlying40 rfl sz_Packet ?_))
    | ((with_reducible refine at_store_ (T := 40) ?_); first | (refine wpList_store_mem rfl 40 _ _ rfl 0 _ _ _ _ hM rfl rfl rfl rfl sz_Packet rfl ?_; clear hM; intro W hM; simp only [List.set_cons_zero] at hM) | (refine wpList_store_mem rfl 40 _ _ rfl 1 _ _ _ _ hM rfl rfl rfl rfl sz_Packet rfl ?_; clear hM; intro W hM; simp only [List.set_cons_succ, List.set_cons_zero] at hM))
    | ((with_reducible refine at_load_ ?_); refine at_wanted_ (by rfl) ?_; first | (refine wpList_loadf_mem (by go_simp) _ _ rfl (by kernel_rfl) 0 _ _ _ _ _ hM rfl rfl (by first | rfl | assumption) ?_) | (refine wpList_loadf_mem (by go_simp) _ _ rfl (by kernel_rfl) 1 _ _ _ _ _ hM rfl rfl (by first | rfl | assumption) ?_))
    | ((with_reducible refine at_store_ ?_); first | (refine wpList_store1_mem rfl _ _ _ rfl 0 _ _ _ _ _ hM rfl rfl (by first | ((conv => lhs; whnf); done) | ((conv => lhs; whnf); rfl)) (by rfl) (by rfl) (by kernel_rfl) rfl ?_; clear hM; intro W hM; simp only [List.set_cons_succ, List.set_cons_zero] at hM) | (refine wpList_store1_mem rfl _ _ _ rfl 1 _ _ _ _ _ hM rfl rfl (by first | ((conv => lhs; whnf); done) | ((conv => lhs; whnf); rfl)) (by rfl) (by rfl) (by kernel_rfl) rfl ?_; clear hM; intro W hM; simp only [List.set_cons_succ, List.set_cons_zero] at hM)))
  have c0 := hM.cells 0 rfl
  (try simp only [zPacket] at c0)
  refine bodyPost_ret (v := .tuple #[.agg (pkC zPk).toArray, .bool false, .int .i64 2]) (by simp [results, Try.results36, go_sem, c0, pkC, zPk]) rfl ⟨rfl, ?_⟩
  exact (show MemX E w _ ([_, _] ++ fgL g gm es) from hM).drop_

end Go.Proofs.Ytmcdmgnpbhkdhaa
