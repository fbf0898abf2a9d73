/- frag: In, where something is put. Written by my genfg.py. -/
import Derived.Test.YtmcdmgnpbhkdhaaFgN
import Derived.Deep.CutBlock
namespace Go.Proofs.Ytmcdmgnpbhkdhaa
open Go.RowKit Go.Lib
set_option linter.unusedVariables false
set_option linter.unusedSimpArgs false


def zeroF : FW := ⟨fun _ => 0, fun _ => false, 0, 0, ⟨0, 0, 0, 0, 0, false, false, 0, ⟨#[]⟩⟩, false, 0⟩
set_option maxRecDepth 1000000 in
theorem whole_zero (W : World) : (zeroValue 118).run Try.prog W = .ok (.agg (fgC zeroF).toArray) W := by kernel_rfl
theorem build_new : (fgC zeroF).toArray.setIfInBounds 8000 (.int .i64 (-1)) = (fgC newF).toArray := by
  rw [List.setIfInBounds_toArray, fgC_seten]; rfl
/-- what is known once the entry is there -/
def MidR (E : Nat → Prop) (w : World) (g gm : Nat) (es : List FE) (L : List Res) (key : KNm) (v : Value) (W : World) : Prop :=
  ∃ (es1 : List FE) (i : Nat) (e : FE), v = .pointer (some ⟨e.g, 0, none⟩) ∧ MemX E w W (L ++ fgL g gm es1) ∧ FInv es1 ∧ es1[i]? = some e ∧ e.k = key ∧
    (es1 = es ∨ ((∀ d ∈ es, d.k ≠ key) ∧ es.length < 8 ∧ i = es.length ∧ e = ⟨key, e.g, newF⟩ ∧ es1 = es ++ [e]))
theorem exec_conv {P : Program} {o : Oper} {a : Act} (S T : TypeId) (x : Operand) (ho : o.op = .convert S T x) (v r : Value) (hx : a.eval x = v) {W : World} (hr : (convert S T v).run P W = .ok r W) (W' : World) (hw : W' = W := by rfl) : (execOp a.eval o).run P W' = .ok (.value r) W' := by
  subst hw
  unfold execOp
  simp only [ho, hx, hr, Sem.run_bind, Sem.run_pure, Result.andThen_ok]
def LookR (es : List FE) (key : KNm) (v : Value) : Prop := (∃ (i : Nat) (e : FE), es[i]? = some e ∧ e.k = key ∧ v = .pointer (some ⟨e.g, 0, none⟩)) ∨ ((∀ e ∈ es, e.k ≠ key) ∧ v = .pointer none)
theorem LookR.bool {es : List FE} {key : KNm} {v : Value} (h : LookR es key v) : ∃ nn : Bool, (nn = false ∧ ∃ (i : Nat) (e : FE), es[i]? = some e ∧ e.k = key ∧ v = .pointer (some ⟨e.g, 0, none⟩)) ∨ (nn = true ∧ (∀ e ∈ es, e.k ≠ key) ∧ v = .pointer none) := by
  rcases h with h | h
  · exact ⟨false, .inl ⟨rfl, h⟩⟩
  · exact ⟨true, .inr ⟨rfl, h⟩⟩
def InPost (E : Nat → Prop) (w : World) (g gm : Nat) (es : List FE) (p : Pk) (e : Ending) (w' : World) : Prop :=
  ∃ (r : Pk) (is : Bool) (er : Int) (es' : List FE), e = .returned (.tuple #[.agg (pkC r).toArray, .bool is, .int .i64 er]) ∧ MemX E w w' (fgL g gm es') ∧ FInv es' ∧ InR es p r is er es'

set_option maxRecDepth 100000 in
set_option maxHeartbeats 8000000 in
theorem In_go (g gm : Nat) (es : List FE) (p : Pk) (w : World) (hM0 : MemX (blkE (fgL g gm es)) w w (fgL g gm es)) (hI : FInv es) (hL : PkLim p) (hc : ipChk p = 0)
    (hq1 : p.mf = false → p.off ≠ 0) (hq2 : p.mf = true → p.b.size % 8 = 0 ∧ 0 < p.b.size) (hq3 : 8 * p.off + p.b.size ≤ 4000) :
    Calls Try.prog 36 #[.pointer (some ⟨g, 0, none⟩), .agg (pkC p).toArray] w fun e w' => InPost (blkE (fgL g gm es)) w g gm es p e w' := by
  obtain ⟨_, _, _, hof, hbs⟩ := ipChk_ok hc
  have HIN := Lib.hid (fun r is er es' h => show InR es p r is er es' from Or.inr (Or.inr (Or.inr (Or.inr ⟨hc, hq1, hq2, hq3, h⟩))))
  have HNK := Lib.hid (show NmOk (keyP p) from ⟨hL.ok.s.1, hL.ok.s.2, hL.ok.d.1, hL.ok.d.2, hL.ok.pr.1, hL.ok.pr.2, hL.ok.id.1, hL.ok.id.2⟩)
  have HI := Lib.hid hI
  have HLM := Lib.hid hL
  clear hI
  have hM : MemX (blkE (fgL g gm es)) w w (fgL g gm es) := hM0
  generalize blkE (fgL g gm es) = E at *
  clear hM0
  have hsz := hL.b
  have HC := Lib.hid (fun W => ipCheck_any p W hL.ok)
  obtain ⟨ps, pd, pr, ptl, pid, df, mf, off, pb⟩ := p
  simp only [pkC] at *
  go_enter Try.func36, Try.ntmps36
  go_upto_region 1 with (first | go_skip | ((with_reducible refine at_box_ ?_); refine wpList_box_mem rfl _ _ rfl [.int .u32 ps, .int .u32 pd, .int .i64 pr, .int .i64 ptl, .int .i64 pid, .bool df, .bool mf, .int .i64 off, .string pb] rfl hM ?_; clear hM; intro gp W hM; replace hM := fg_last hM) | ((with_reducible refine at_alloc_ (T := 40) ?_); refine wpList_alloc_mem rfl 40 rfl _ zv_Packet _ rfl hM ?_; clear hM; intro g4 W hM; replace hM := fg_last hM))
  replace hM : MemX E w W (atR g4 40 zPacket :: atR gp 40 [.int .u32 ps, .int .u32 pd, .int .i64 pr, .int .i64 ptl, .int .i64 pid, .bool df, .bool mf, .int .i64 off, .string pb] :: tbR g gm :: mpR gm es :: es.map eR) := hM
  rw [hc] at HC
  clear hc
  have w1 : IntKind.i64.wrap (8 * off) = 8 * off := IntWalk.i64_in _ (by omega)
  have c1 := hM.cells 1 rfl
  have l1 := hM.lt 1 rfl
  go_upto_region 1 with (fail)
  refine wp_region_later (by kernel_rfl) (by kernel_rfl) (fun hlc => ?_)
  repeat (go_big_quiet_step (first | (go_at_call 49; exact later_call (HC.out _))))
  refine wpQuiet_nil ?_
  intro wq hbq
  clear hlc c1 l1 HC
  replace hM := hM.kept hbq
  clear hbq
  clear w1
  have hle : decide (4000 < 8 * off + (pb.size : Int)) = false := by simp; omega
  have HQ1 := Lib.hid hq1
  have HQ2 := Lib.hid hq2
  have HQ3 := Lib.hid hq3
  clear hq1 hq2 hq3
  go_upto_block 0 with (fail)
  go_cut [] (fun wc => wc = wq)
  case first =>
    cases mf
    · have hofb : (off == 0) = false := by simpa using HQ1.out rfl
      go_wp2_with (first
        | go_skip
        | ((with_reducible refine at_box_ ?_); refine wpList_box_mem rfl _ _ rfl _ rfl hM ?_; clear hM; intro gb W hM; first | (simp only [List.nil_append] at hM) | (simp only [List.cons_append, List.nil_append] at hM))
        | ((with_reducible refine at_load_ ?_); refine at_wanted_ (by rfl) ?_; first | (refine wpList_loadf_mem (by go_simp) _ _ rfl (by kernel_rfl) 0 _ _ _ _ _ hM rfl rfl (by first | rfl | assumption) ?_) | (refine wpList_loadf_mem (by go_simp) _ _ rfl (by kernel_rfl) 1 _ _ _ _ _ hM rfl rfl (by first | rfl | assumption) ?_))
        | ((with_reducible refine at_store_ ?_); first | (refine wpList_store1_mem rfl _ _ _ rfl 0 _ _ _ _ _ hM rfl rfl (by first | ((conv => lhs; whnf); done) | ((conv => lhs; whnf); rfl)) (by rfl) (by rfl) (by kernel_rfl) rfl ?_; clear hM; intro W hM; simp only [List.set_cons_succ, List.set_cons_zero] at hM) | (refine wpList_store1_mem rfl _ _ _ rfl 1 _ _ _ _ _ hM rfl rfl (by first | ((conv => lhs; whnf); done) | ((conv => lhs; whnf); rfl)) (by rfl) (by rfl) (by kernel_rfl) rfl ?_; clear hM; intro W hM; simp only [List.set_cons_succ, List.set_cons_zero] at hM)))
      go_meet
      case rel => rfl
    · have hse := str_some (u := pb) (HQ2.out rfl).2
      have h8 : (((pb.size : Int) % 8) != 0) = false := by have := (HQ2.out rfl).1; simp; omega
      go_wp2_with (first
        | go_skip
        | ((with_reducible refine at_box_ ?_); refine wpList_box_mem rfl _ _ rfl _ rfl hM ?_; clear hM; intro gb W hM; first | (simp only [List.nil_append] at hM) | (simp only [List.cons_append, List.nil_append] at hM))
        | ((with_reducible refine at_load_ ?_); refine at_wanted_ (by rfl) ?_; first | (refine wpList_loadf_mem (by go_simp) _ _ rfl (by kernel_rfl) 0 _ _ _ _ _ hM rfl rfl (by first | rfl | assumption) ?_) | (refine wpList_loadf_mem (by go_simp) _ _ rfl (by kernel_rfl) 1 _ _ _ _ _ hM rfl rfl (by first | rfl | assumption) ?_))
        | ((with_reducible refine at_store_ ?_); first | (refine wpList_store1_mem rfl _ _ _ rfl 0 _ _ _ _ _ hM rfl rfl (by first | ((conv => lhs; whnf); done) | ((conv => lhs; whnf); rfl)) (by rfl) (by rfl) (by kernel_rfl) rfl ?_; clear hM; intro W hM; simp only [List.set_cons_succ, List.set_cons_zero] at hM) | (refine wpList_store1_mem rfl _ _ _ rfl 1 _ _ _ _ _ hM rfl rfl (by first | ((conv => lhs; whnf); done) | ((conv => lhs; whnf); rfl)) (by rfl) (by rfl) (by kernel_rfl) rfl ?_; clear hM; intro W hM; simp only [List.set_cons_succ, List.set_cons_zero] at hM)))
      go_meet
      case rel => rfl
  case rest =>
    have hwc := hcut.symm
    clear hcut
    subst hwc
    clear hle
    go_upto_region 11 with         (first
          | go_skip
          | ((with_reducible refine at_alloc_ (T := 113) ?_); refine wpList_alloc_mem rfl 113 rfl _ zv_Name _ rfl hM ?_; clear hM; intro gk W hM; replace hM := fg_last hM)
          | ((with_reducible refine at_store_ (T := 113) ?_); refine wpList_store_mem rfl 113 _ _ rfl 0 _ _ _ _ hM rfl rfl rfl rfl sz_Name rfl ?_; clear hM; intro W hM; simp only [List.set_cons_zero] at hM)
          | ((with_reducible refine at_box_ ?_); refine wpList_box_mem rfl _ _ rfl _ rfl hM ?_; clear hM; intro gb W hM; first | (simp only [List.nil_append] at hM) | (simp only [List.cons_append, List.nil_append] at hM))
          | ((with_reducible refine at_load_ ?_); refine at_wanted_ (by rfl) ?_; first | (refine wpList_loadf_mem (by go_simp) _ _ rfl (by kernel_rfl) 0 _ _ _ _ _ hM rfl rfl (by first | rfl | assumption) ?_) | (refine wpList_loadf_mem (by go_simp) _ _ rfl (by kernel_rfl) 1 _ _ _ _ _ hM rfl rfl (by first | rfl | assumption) ?_))
          | ((with_reducible refine at_store_ ?_); first | (refine wpList_store1_mem rfl _ _ _ rfl 0 _ _ _ _ _ hM rfl rfl (by first | ((conv => lhs; whnf); done) | ((conv => lhs; whnf); rfl)) (by rfl) (by rfl) (by kernel_rfl) rfl ?_; clear hM; intro W hM; simp only [List.set_cons_succ, List.set_cons_zero] at hM) | (refine wpList_store1_mem rfl _ _ _ rfl 1 _ _ _ _ _ hM rfl rfl (by first | ((conv => lhs; whnf); done) | ((conv => lhs; whnf); rfl)) (by rfl) (by rfl) (by kernel_rfl) rfl ?_; clear hM; intro W hM; simp only [List.set_cons_succ, List.set_cons_zero] at hM)))
    replace hM : MemX E w W (atR gk 113 [.int .u32 ps, .int .u32 pd, .int .i64 pr, .int .i64 pid] :: atR g4 40 zPacket :: atR gp 40 [.int .u32 ps, .int .u32 pd, .int .i64 pr, .int .i64 ptl, .int .i64 pid, .bool df, .bool mf, .int .i64 off, .string pb] :: tbR g gm :: mpR gm es :: es.map eR) := hM
    go_upto_region 11 with (fail)
    go_frame
    go_cut [10] (fun v wc => LookR es ⟨ps, pd, pr, pid⟩ v ∧ MemX E w wc (atR gk 113 [.int .u32 ps, .int .u32 pd, .int .i64 pr, .int .i64 pid] :: atR g4 40 zPacket :: atR gp 40 [.int .u32 ps, .int .u32 pd, .int .i64 pr, .int .i64 ptl, .int .i64 pid, .bool df, .bool mf, .int .i64 off, .string pb] :: tbR g gm :: mpR gm es :: es.map eR))
    case first =>
      rcases look_cases es ⟨ps, pd, pr, pid⟩ with ⟨i, e, he, hk⟩ | hno
      · have HG := Lib.hid (show mGet (es.map eP) ⟨ps, pd, pr, pid⟩ = some e.g from by rw [← hk]; exact HI.out.get he)
        have HR := Lib.hid (show LookR es ⟨ps, pd, pr, pid⟩ (.pointer (some ⟨e.g, 0, none⟩)) from .inl ⟨i, e, he, hk, rfl⟩)
        clear he hk
        generalize e.g = ge at *
        refine wp_region_M [0,3] [] hM (by kernel_rfl) ?_
        clear hM
        intro wo hM
        refine wpI_takeP (i := 0) (v := ?_) rfl (by kernel_rfl) (by kernel_rfl) (by kernel_rfl) (by first | exact fun _ _ _ h => h | exact fun _ _ _ h => HQ0.out _ _ _ _ _ h) (Or.inl ⟨by rfl, ?hy⟩) ?_
        case hy => (intro W; go_simp; (try with_reducible rfl))
        simp only [Act.put, List.getElem_toArray, List.getElem_cons_succ, List.getElem_cons_zero, List.setIfInBounds_toArray, List.set_cons_zero, List.set_cons_succ]
        refine wpI_takeP (i := 1) (v := ?_) rfl (by kernel_rfl) (by kernel_rfl) (by kernel_rfl) (by first | exact fun _ _ _ h => h | exact fun _ _ _ h => HQ0.out _ _ _ _ _ h) (Or.inl ⟨by rfl, ?hy⟩) ?_
        case hy => (intro W; go_simp; (try with_reducible rfl))
        simp only [Act.put, List.getElem_toArray, List.getElem_cons_succ, List.getElem_cons_zero, List.setIfInBounds_toArray, List.set_cons_zero, List.set_cons_succ]
        refine wpI_takeP (i := 2) (v := ?_) rfl (by kernel_rfl) (by kernel_rfl) (by kernel_rfl) (by first | exact fun _ _ _ h => h | exact fun _ _ _ h => HQ0.out _ _ _ _ _ h) (Or.inl ⟨by rfl, ?hy⟩) ?_
        case hy => (intro W; go_simp; (try with_reducible rfl))
        simp only [Act.put, List.getElem_toArray, List.getElem_cons_succ, List.getElem_cons_zero, List.setIfInBounds_toArray, List.set_cons_zero, List.set_cons_succ]
        refine wpI_take (i := 3) (v := ?_) rfl (by kernel_rfl) (by kernel_rfl) (by kernel_rfl) (by kernel_rfl) (by first | exact fun _ _ _ h => h | exact fun _ _ _ h => HQ0.out _ _ _ _ _ h) ⟨fun r hr => hM.get 0 hr, fun r hr => hM.get 3 hr, trivial⟩ (Or.inl ⟨by rfl, ?hy⟩) ?_
        case hy => (rintro W ⟨i0, i3, -⟩; have c0 := (show At W _ _ _ from i0 _ rfl).cell; have c3 := (show At W _ _ _ from i3 _ rfl).cell; go_simp; (try with_reducible rfl))
        simp only [Act.put, List.getElem_toArray, List.getElem_cons_succ, List.getElem_cons_zero, List.setIfInBounds_toArray, List.set_cons_zero, List.set_cons_succ]
        refine wpI_take (i := 4) (v := ?_) rfl (by kernel_rfl) (by kernel_rfl) (by kernel_rfl) (by kernel_rfl) (by first | exact fun _ _ _ h => h | exact fun _ _ _ h => HQ0.out _ _ _ _ _ h) ⟨fun r hr => hM.get 0 hr, fun r hr => hM.get 3 hr, trivial⟩ (Or.inl ⟨by rfl, ?hy⟩) ?_
        case hy => (rintro W ⟨i0, i3, -⟩; have c0 := (show At W _ _ _ from i0 _ rfl).cell; have c3 := (show At W _ _ _ from i3 _ rfl).cell; go_simp; (try with_reducible rfl))
        simp only [Act.put, List.getElem_toArray, List.getElem_cons_succ, List.getElem_cons_zero, List.setIfInBounds_toArray, List.set_cons_zero, List.set_cons_succ]
        refine wpI_one (i := 5) rfl (by kernel_rfl) ?_
        (try simp only [Act.put, List.getElem_toArray, List.getElem_cons_succ, List.getElem_cons_zero, List.setIfInBounds_toArray, List.set_cons_zero, List.set_cons_succ])
        go_wp2_with (first
            | go_skip
            | ((with_reducible refine at_lookup_ ?_); refine wpList_lookup_m (by rfl) _ _ false rfl mapTy_frag (.pointer none) (fun _ => by kernel_rfl) 4 hM rfl rfl (⟨ps, pd, pr, pid⟩ : KNm) rfl (keyOk_Nm HNK.out) ?_; simp only [HG.out, Option.elim, fGP])
            | ((with_reducible refine at_box_ ?_); refine wpList_box_mem rfl _ _ rfl _ rfl hM ?_; clear hM; intro gb W hM; first | (simp only [List.nil_append] at hM) | (simp only [List.cons_append, List.nil_append] at hM)))
        refine contI_normal ⟨fun r hr => hM.get 0 hr, fun r hr => hM.get 3 hr, trivial⟩ ?_
        (try simp only [Act.put, List.getElem_toArray, List.getElem_cons_succ, List.getElem_cons_zero, List.setIfInBounds_toArray, List.set_cons_zero, List.set_cons_succ])
        refine wpI_takeP (i := 6) (v := ?_) rfl (by kernel_rfl) (by kernel_rfl) (by kernel_rfl) (by first | exact fun _ _ _ h => h | exact fun _ _ _ h => HQ0.out _ _ _ _ _ h) (Or.inl ⟨by rfl, ?hy⟩) ?_
        case hy => (intro W; go_simp; (try with_reducible rfl))
        simp only [Act.put, List.getElem_toArray, List.getElem_cons_succ, List.getElem_cons_zero, List.setIfInBounds_toArray, List.set_cons_zero, List.set_cons_succ]
        refine wpI_done (by kernel_rfl) ?_ _
        (try simp only [Act.put, List.getElem_toArray, List.getElem_cons_succ, List.getElem_cons_zero, List.setIfInBounds_toArray, List.set_cons_zero, List.set_cons_succ])
        have HK := Lib.hid hM
        go_wp2_with fail
        go_meet
        case rel => exact ⟨HR.out, HK.out⟩
      · have HG := Lib.hid (look_none hno)
        have HR := Lib.hid (show LookR es ⟨ps, pd, pr, pid⟩ (.pointer none) from .inr ⟨hno, rfl⟩)
        clear hno
        refine wp_region_M [0,3] [] hM (by kernel_rfl) ?_
        clear hM
        intro wo hM
        refine wpI_takeP (i := 0) (v := ?_) rfl (by kernel_rfl) (by kernel_rfl) (by kernel_rfl) (by first | exact fun _ _ _ h => h | exact fun _ _ _ h => HQ0.out _ _ _ _ _ h) (Or.inl ⟨by rfl, ?hy⟩) ?_
        case hy => (intro W; go_simp; (try with_reducible rfl))
        simp only [Act.put, List.getElem_toArray, List.getElem_cons_succ, List.getElem_cons_zero, List.setIfInBounds_toArray, List.set_cons_zero, List.set_cons_succ]
        refine wpI_takeP (i := 1) (v := ?_) rfl (by kernel_rfl) (by kernel_rfl) (by kernel_rfl) (by first | exact fun _ _ _ h => h | exact fun _ _ _ h => HQ0.out _ _ _ _ _ h) (Or.inl ⟨by rfl, ?hy⟩) ?_
        case hy => (intro W; go_simp; (try with_reducible rfl))
        simp only [Act.put, List.getElem_toArray, List.getElem_cons_succ, List.getElem_cons_zero, List.setIfInBounds_toArray, List.set_cons_zero, List.set_cons_succ]
        refine wpI_takeP (i := 2) (v := ?_) rfl (by kernel_rfl) (by kernel_rfl) (by kernel_rfl) (by first | exact fun _ _ _ h => h | exact fun _ _ _ h => HQ0.out _ _ _ _ _ h) (Or.inl ⟨by rfl, ?hy⟩) ?_
        case hy => (intro W; go_simp; (try with_reducible rfl))
        simp only [Act.put, List.getElem_toArray, List.getElem_cons_succ, List.getElem_cons_zero, List.setIfInBounds_toArray, List.set_cons_zero, List.set_cons_succ]
        refine wpI_take (i := 3) (v := ?_) rfl (by kernel_rfl) (by kernel_rfl) (by kernel_rfl) (by kernel_rfl) (by first | exact fun _ _ _ h => h | exact fun _ _ _ h => HQ0.out _ _ _ _ _ h) ⟨fun r hr => hM.get 0 hr, fun r hr => hM.get 3 hr, trivial⟩ (Or.inl ⟨by rfl, ?hy⟩) ?_
        case hy => (rintro W ⟨i0, i3, -⟩; have c0 := (show At W _ _ _ from i0 _ rfl).cell; have c3 := (show At W _ _ _ from i3 _ rfl).cell; go_simp; (try with_reducible rfl))
        simp only [Act.put, List.getElem_toArray, List.getElem_cons_succ, List.getElem_cons_zero, List.setIfInBounds_toArray, List.set_cons_zero, List.set_cons_succ]
        refine wpI_take (i := 4) (v := ?_) rfl (by kernel_rfl) (by kernel_rfl) (by kernel_rfl) (by kernel_rfl) (by first | exact fun _ _ _ h => h | exact fun _ _ _ h => HQ0.out _ _ _ _ _ h) ⟨fun r hr => hM.get 0 hr, fun r hr => hM.get 3 hr, trivial⟩ (Or.inl ⟨by rfl, ?hy⟩) ?_
        case hy => (rintro W ⟨i0, i3, -⟩; have c0 := (show At W _ _ _ from i0 _ rfl).cell; have c3 := (show At W _ _ _ from i3 _ rfl).cell; go_simp; (try with_reducible rfl))
        simp only [Act.put, List.getElem_toArray, List.getElem_cons_succ, List.getElem_cons_zero, List.setIfInBounds_toArray, List.set_cons_zero, List.set_cons_succ]
        refine wpI_one (i := 5) rfl (by kernel_rfl) ?_
        (try simp only [Act.put, List.getElem_toArray, List.getElem_cons_succ, List.getElem_cons_zero, List.setIfInBounds_toArray, List.set_cons_zero, List.set_cons_succ])
        go_wp2_with (first
            | go_skip
            | ((with_reducible refine at_lookup_ ?_); refine wpList_lookup_m (by rfl) _ _ false rfl mapTy_frag (.pointer none) (fun _ => by kernel_rfl) 4 hM rfl rfl (⟨ps, pd, pr, pid⟩ : KNm) rfl (keyOk_Nm HNK.out) ?_; simp only [HG.out, Option.elim, fGP])
            | ((with_reducible refine at_box_ ?_); refine wpList_box_mem rfl _ _ rfl _ rfl hM ?_; clear hM; intro gb W hM; first | (simp only [List.nil_append] at hM) | (simp only [List.cons_append, List.nil_append] at hM)))
        refine contI_normal ⟨fun r hr => hM.get 0 hr, fun r hr => hM.get 3 hr, trivial⟩ ?_
        (try simp only [Act.put, List.getElem_toArray, List.getElem_cons_succ, List.getElem_cons_zero, List.setIfInBounds_toArray, List.set_cons_zero, List.set_cons_succ])
        refine wpI_takeP (i := 6) (v := ?_) rfl (by kernel_rfl) (by kernel_rfl) (by kernel_rfl) (by first | exact fun _ _ _ h => h | exact fun _ _ _ h => HQ0.out _ _ _ _ _ h) (Or.inl ⟨by rfl, ?hy⟩) ?_
        case hy => (intro W; go_simp; (try with_reducible rfl))
        simp only [Act.put, List.getElem_toArray, List.getElem_cons_succ, List.getElem_cons_zero, List.setIfInBounds_toArray, List.set_cons_zero, List.set_cons_succ]
        refine wpI_done (by kernel_rfl) ?_ _
        (try simp only [Act.put, List.getElem_toArray, List.getElem_cons_succ, List.getElem_cons_zero, List.setIfInBounds_toArray, List.set_cons_zero, List.set_cons_succ])
        have HK := Lib.hid hM
        go_wp2_with fail
        go_meet
        case rel => exact ⟨HR.out, HK.out⟩
    case rest =>
      obtain ⟨hlr, hM2⟩ := hcut
      clear hM
      have hM := hM2
      clear hM2
      obtain ⟨nn, hlr2⟩ := hlr.bool
      have HLR := Lib.hid hlr2
      clear hlr hlr2
      go_upto_region 12 with (fail)
      go_cut [72] (fun b W2 => b = .bool nn ∧ MemX E w W2 (atR gk 113 [.int .u32 ps, .int .u32 pd, .int .i64 pr, .int .i64 pid] :: atR g4 40 zPacket :: atR gp 40 [.int .u32 ps, .int .u32 pd, .int .i64 pr, .int .i64 ptl, .int .i64 pid, .bool df, .bool mf, .int .i64 off, .string pb] :: tbR g gm :: mpR gm es :: es.map eR))
      case first =>
        have HK := Lib.hid hM
        rcases HLR.out with ⟨hn, i, e, _, _, hv⟩ | ⟨hn, _, hv⟩
        · subst hn hv
          generalize e.g = ge at *
          go_wp2_with fail
          go_meet
          case rel => exact ⟨rfl, HK.out⟩
        · subst hn hv
          go_wp2_with fail
          go_meet
          case rel => exact ⟨rfl, HK.out⟩
      case rest =>
       obtain ⟨rfl, hM2⟩ := hcut
       clear hM
       have hM := hM2
       clear hM2
       go_upto_if 72 with (fail)
       go_cut [10] (fun v wc => MidR E w g gm es [atR gk 113 [.int .u32 ps, .int .u32 pd, .int .i64 pr, .int .i64 pid], atR g4 40 zPacket, atR gp 40 [.int .u32 ps, .int .u32 pd, .int .i64 pr, .int .i64 ptl, .int .i64 pid, .bool df, .bool mf, .int .i64 off, .string pb]] ⟨ps, pd, pr, pid⟩ v wc)
       case first =>
         rcases HLR.out with ⟨hn, i, e, he, hk, hv⟩ | ⟨hn, hno, hv⟩
         · subst hn hv
           have HK := Lib.hid (show MidR E w g gm es [atR gk 113 [.int .u32 ps, .int .u32 pd, .int .i64 pr, .int .i64 pid], atR g4 40 zPacket, atR gp 40 [.int .u32 ps, .int .u32 pd, .int .i64 pr, .int .i64 ptl, .int .i64 pid, .bool df, .bool mf, .int .i64 off, .string pb]] ⟨ps, pd, pr, pid⟩ (.pointer (some ⟨e.g, 0, none⟩)) wc from ⟨es, i, e, rfl, hM, HI.out, he, hk, .inl rfl⟩)
           clear he hk
           generalize e.g = ge at *
           go_wp2_with fail
           go_meet
           case rel => exact HK.out
         · subst hn hv
           have HNO := Lib.hid hno
           have HL8 := Lib.hid HI.out.len
           clear hno
           by_cases h8 : es.length = 8
           · have hl8 : ((es.length : Int) == 8) = true := by rw [h8]; rfl
             have HL8 := Lib.hid h8
             clear h8
             go_wp2_with (first
               | go_skip
               | ((with_reducible refine at_len_ ?_); refine wpList_len_m rfl _ rfl mapTy_frag.ht 4 hM rfl rfl ?_)
               | ((with_reducible refine at_box_ ?_); refine wpList_box_mem rfl _ _ rfl _ rfl hM ?_; clear hM; intro gb W hM; first | (simp only [List.nil_append] at hM) | (simp only [List.cons_append, List.nil_append] at hM))
               | ((with_reducible refine at_alloc_ (T := 40) ?_); refine wpList_alloc_mem rfl 40 rfl _ zv_Packet _ rfl hM ?_; clear hM; intro gb W hM; first | (simp only [List.nil_append] at hM) | (simp only [List.cons_append, List.nil_append] at hM))
               | ((with_reducible refine at_load_ (T := 40) ?_); refine at_wanted_ (by rfl) ?_; first | (refine wpList_loadg_mem (by go_simp) 40 _ rfl 0 _ _ _ hM rfl rfl _ Try.underlying40 rfl sz_Packet ?_) | (refine wpList_loadg_mem (by go_simp) 40 _ rfl 1 _ _ _ hM rfl rfl _ Try.underlying40 rfl sz_Packet ?_) | (refine wpList_loadg_mem (by go_simp) 40 _ rfl 2 _ _ _ hM rfl rfl _ Try.underlying40 rfl sz_Packet ?_) | (refine wpList_loadg_mem (by go_simp) 40 _ rfl 3 _ _ _ hM rfl rfl _ Try.underlying40 rfl sz_Packet ?_))
               | ((with_reducible refine at_store_ (T := 40) ?_); first | (refine wpList_store_mem rfl 40 _ _ rfl 0 _ _ _ _ hM rfl rfl rfl rfl sz_Packet rfl ?_; clear hM; intro W hM; simp only [List.set_cons_zero] at hM) | (refine wpList_store_mem rfl 40 _ _ rfl 1 _ _ _ _ hM rfl rfl rfl rfl sz_Packet rfl ?_; clear hM; intro W hM; simp only [List.set_cons_succ, List.set_cons_zero] at hM) | (refine wpList_store_mem rfl 40 _ _ rfl 2 _ _ _ _ hM rfl rfl rfl rfl sz_Packet rfl ?_; clear hM; intro W hM; simp only [List.set_cons_succ, List.set_cons_zero] at hM) | (refine wpList_store_mem rfl 40 _ _ rfl 3 _ _ _ _ hM rfl rfl rfl rfl sz_Packet rfl ?_; clear hM; intro W hM; simp only [List.set_cons_succ, List.set_cons_zero] at hM))
               | ((with_reducible refine at_load_ ?_); refine at_wanted_ (by rfl) ?_; first | (refine wpList_loadf_mem (by go_simp) _ _ rfl (by kernel_rfl) 0 _ _ _ _ _ hM rfl rfl (by first | rfl | assumption) ?_) | (refine wpList_loadf_mem (by go_simp) _ _ rfl (by kernel_rfl) 1 _ _ _ _ _ hM rfl rfl (by first | rfl | assumption) ?_) | (refine wpList_loadf_mem (by go_simp) _ _ rfl (by kernel_rfl) 2 _ _ _ _ _ hM rfl rfl (by first | rfl | assumption) ?_) | (refine wpList_loadf_mem (by go_simp) _ _ rfl (by kernel_rfl) 3 _ _ _ _ _ hM rfl rfl (by first | rfl | assumption) ?_))
               | ((with_reducible refine at_store_ ?_); first | (refine wpList_store1_mem rfl _ _ _ rfl 0 _ _ _ _ _ hM rfl rfl (by first | ((conv => lhs; whnf); done) | ((conv => lhs; whnf); rfl)) (by rfl) (by rfl) (by kernel_rfl) rfl ?_; clear hM; intro W hM; simp only [List.set_cons_succ, List.set_cons_zero] at hM) | (refine wpList_store1_mem rfl _ _ _ rfl 1 _ _ _ _ _ hM rfl rfl (by first | ((conv => lhs; whnf); done) | ((conv => lhs; whnf); rfl)) (by rfl) (by rfl) (by kernel_rfl) rfl ?_; clear hM; intro W hM; simp only [List.set_cons_succ, List.set_cons_zero] at hM) | (refine wpList_store1_mem rfl _ _ _ rfl 2 _ _ _ _ _ hM rfl rfl (by first | ((conv => lhs; whnf); done) | ((conv => lhs; whnf); rfl)) (by rfl) (by rfl) (by kernel_rfl) rfl ?_; clear hM; intro W hM; simp only [List.set_cons_succ, List.set_cons_zero] at hM) | (refine wpList_store1_mem rfl _ _ _ rfl 3 _ _ _ _ _ hM rfl rfl (by first | ((conv => lhs; whnf); done) | ((conv => lhs; whnf); rfl)) (by rfl) (by rfl) (by kernel_rfl) rfl ?_; clear hM; intro W hM; simp only [List.set_cons_succ, List.set_cons_zero] at hM)))
             have c0 := hM.cells 1 rfl
             (try simp only [zPacket] at c0)
             refine bodyPost_ret (v := .tuple #[.agg (pkC zPk).toArray, .bool false, .int .i64 9]) (by simp [results, Try.results36, go_sem, c0, pkC, zPk]) rfl ?_
             exact ⟨zPk, false, 9, es, rfl, (show MemX E w _ ([_, _, _] ++ fgL g gm es) from hM).drop_, HI.out, HIN.out _ _ _ _ (.inl ⟨HNO.out, HL8.out, rfl, rfl, rfl, rfl⟩)⟩
           · have hl8 : ((es.length : Int) == 8) = false := by simp; omega
             have HL7 := Lib.hid (show es.length < 8 from by have := HL8.out; omega)
             have hz := whole_zero
             have H4 := Lib.hid build_new
             have hs : (fgC zeroF).toArray.size = 8013 := by rw [List.size_toArray]; exact fgC_len _
             generalize (fgC zeroF).toArray = Y at *
             clear h8
             go_upto_region 15 with         (first
          | go_skip
          | ((with_reducible refine at_len_ ?_); refine wpList_len_m rfl _ rfl mapTy_frag.ht 4 hM rfl rfl ?_)
          | ((with_reducible refine at_box_ ?_); refine wpList_box_mem rfl _ _ rfl _ rfl hM ?_; clear hM; intro gb W hM; first | (simp only [List.nil_append] at hM) | (simp only [List.cons_append, List.nil_append] at hM))
          | ((with_reducible refine at_alloc_ (T := 40) ?_); refine wpList_alloc_mem rfl 40 rfl _ zv_Packet _ rfl hM ?_; clear hM; intro gb W hM; first | (simp only [List.nil_append] at hM) | (simp only [List.cons_append, List.nil_append] at hM))
          | ((with_reducible refine at_load_ (T := 40) ?_); refine at_wanted_ (by rfl) ?_; first | (refine wpList_loadg_mem (by go_simp) 40 _ rfl 0 _ _ _ hM rfl rfl _ Try.underlying40 rfl sz_Packet ?_) | (refine wpList_loadg_mem (by go_simp) 40 _ rfl 1 _ _ _ hM rfl rfl _ Try.underlying40 rfl sz_Packet ?_) | (refine wpList_loadg_mem (by go_simp) 40 _ rfl 2 _ _ _ hM rfl rfl _ Try.underlying40 rfl sz_Packet ?_) | (refine wpList_loadg_mem (by go_simp) 40 _ rfl 3 _ _ _ hM rfl rfl _ Try.underlying40 rfl sz_Packet ?_))
          | ((with_reducible refine at_store_ (T := 40) ?_); first | (refine wpList_store_mem rfl 40 _ _ rfl 0 _ _ _ _ hM rfl rfl rfl rfl sz_Packet rfl ?_; clear hM; intro W hM; simp only [List.set_cons_zero] at hM) | (refine wpList_store_mem rfl 40 _ _ rfl 1 _ _ _ _ hM rfl rfl rfl rfl sz_Packet rfl ?_; clear hM; intro W hM; simp only [List.set_cons_succ, List.set_cons_zero] at hM) | (refine wpList_store_mem rfl 40 _ _ rfl 2 _ _ _ _ hM rfl rfl rfl rfl sz_Packet rfl ?_; clear hM; intro W hM; simp only [List.set_cons_succ, List.set_cons_zero] at hM) | (refine wpList_store_mem rfl 40 _ _ rfl 3 _ _ _ _ hM rfl rfl rfl rfl sz_Packet rfl ?_; clear hM; intro W hM; simp only [List.set_cons_succ, List.set_cons_zero] at hM))
          | ((with_reducible refine at_load_ ?_); refine at_wanted_ (by rfl) ?_; first | (refine wpList_loadf_mem (by go_simp) _ _ rfl (by kernel_rfl) 0 _ _ _ _ _ hM rfl rfl (by first | rfl | assumption) ?_) | (refine wpList_loadf_mem (by go_simp) _ _ rfl (by kernel_rfl) 1 _ _ _ _ _ hM rfl rfl (by first | rfl | assumption) ?_) | (refine wpList_loadf_mem (by go_simp) _ _ rfl (by kernel_rfl) 2 _ _ _ _ _ hM rfl rfl (by first | rfl | assumption) ?_) | (refine wpList_loadf_mem (by go_simp) _ _ rfl (by kernel_rfl) 3 _ _ _ _ _ hM rfl rfl (by first | rfl | assumption) ?_))
          | ((with_reducible refine at_store_ ?_); first | (refine wpList_store1_mem rfl _ _ _ rfl 0 _ _ _ _ _ hM rfl rfl (by first | ((conv => lhs; whnf); done) | ((conv => lhs; whnf); rfl)) (by rfl) (by rfl) (by kernel_rfl) rfl ?_; clear hM; intro W hM; simp only [List.set_cons_succ, List.set_cons_zero] at hM) | (refine wpList_store1_mem rfl _ _ _ rfl 1 _ _ _ _ _ hM rfl rfl (by first | ((conv => lhs; whnf); done) | ((conv => lhs; whnf); rfl)) (by rfl) (by rfl) (by kernel_rfl) rfl ?_; clear hM; intro W hM; simp only [List.set_cons_succ, List.set_cons_zero] at hM) | (refine wpList_store1_mem rfl _ _ _ rfl 2 _ _ _ _ _ hM rfl rfl (by first | ((conv => lhs; whnf); done) | ((conv => lhs; whnf); rfl)) (by rfl) (by rfl) (by kernel_rfl) rfl ?_; clear hM; intro W hM; simp only [List.set_cons_succ, List.set_cons_zero] at hM) | (refine wpList_store1_mem rfl _ _ _ rfl 3 _ _ _ _ _ hM rfl rfl (by first | ((conv => lhs; whnf); done) | ((conv => lhs; whnf); rfl)) (by rfl) (by rfl) (by kernel_rfl) rfl ?_; clear hM; intro W hM; simp only [List.set_cons_succ, List.set_cons_zero] at hM)))
             go_upto_region 16 with (first | go_skip | ((with_reducible refine at_box_ ?_); rw [H4.out]; refine wpList_box_mem rfl _ _ rfl (fgC newF) rfl hM ?_; clear hM; intro gn W hM))
             replace hM : MemX E w W (atR gk 113 [.int .u32 ps, .int .u32 pd, .int .i64 pr, .int .i64 pid] :: atR g4 40 zPacket :: atR gp 40 [.int .u32 ps, .int .u32 pd, .int .i64 pr, .int .i64 ptl, .int .i64 pid, .bool df, .bool mf, .int .i64 off, .string pb] :: tbR g gm :: mpR gm es :: (es.map eR ++ [wR gn newF])) := hM
             go_upto_region 16 with (fail)
             refine wp_region_M [0,3] [] hM (by kernel_rfl) ?_
             clear hM
             intro wo hM
             refine wpI_takeP (i := 0) (v := ?_) rfl (by kernel_rfl) (by kernel_rfl) (by kernel_rfl) (by first | exact fun _ _ _ h => h | exact fun _ _ _ h => HQ0.out _ _ _ _ _ h) (Or.inl ⟨by rfl, ?hy⟩) ?_
             case hy => (intro W; go_simp; (try with_reducible rfl))
             simp only [Act.put, List.getElem_toArray, List.getElem_cons_succ, List.getElem_cons_zero, List.setIfInBounds_toArray, List.set_cons_zero, List.set_cons_succ]
             refine wpI_takeP (i := 1) (v := ?_) rfl (by kernel_rfl) (by kernel_rfl) (by kernel_rfl) (by first | exact fun _ _ _ h => h | exact fun _ _ _ h => HQ0.out _ _ _ _ _ h) (Or.inl ⟨by rfl, ?hy⟩) ?_
             case hy => (intro W; go_simp; (try with_reducible rfl))
             simp only [Act.put, List.getElem_toArray, List.getElem_cons_succ, List.getElem_cons_zero, List.setIfInBounds_toArray, List.set_cons_zero, List.set_cons_succ]
             refine wpI_takeP (i := 2) (v := ?_) rfl (by kernel_rfl) (by kernel_rfl) (by kernel_rfl) (by first | exact fun _ _ _ h => h | exact fun _ _ _ h => HQ0.out _ _ _ _ _ h) (Or.inl ⟨by rfl, ?hy⟩) ?_
             case hy => (intro W; go_simp; (try with_reducible rfl))
             simp only [Act.put, List.getElem_toArray, List.getElem_cons_succ, List.getElem_cons_zero, List.setIfInBounds_toArray, List.set_cons_zero, List.set_cons_succ]
             refine wpI_take (i := 3) (v := ?_) rfl (by kernel_rfl) (by kernel_rfl) (by kernel_rfl) (by kernel_rfl) (by first | exact fun _ _ _ h => h | exact fun _ _ _ h => HQ0.out _ _ _ _ _ h) ⟨fun r hr => hM.get 0 hr, fun r hr => hM.get 3 hr, trivial⟩ (Or.inl ⟨by rfl, ?hy⟩) ?_
             case hy => (rintro W ⟨i0, i3, -⟩; have c0 := (show At W _ _ _ from i0 _ rfl).cell; have c3 := (show At W _ _ _ from i3 _ rfl).cell; go_simp; (try with_reducible rfl))
             simp only [Act.put, List.getElem_toArray, List.getElem_cons_succ, List.getElem_cons_zero, List.setIfInBounds_toArray, List.set_cons_zero, List.set_cons_succ]
             refine wpI_take (i := 4) (v := ?_) rfl (by kernel_rfl) (by kernel_rfl) (by kernel_rfl) (by kernel_rfl) (by first | exact fun _ _ _ h => h | exact fun _ _ _ h => HQ0.out _ _ _ _ _ h) ⟨fun r hr => hM.get 0 hr, fun r hr => hM.get 3 hr, trivial⟩ (Or.inl ⟨by rfl, ?hy⟩) ?_
             case hy => (rintro W ⟨i0, i3, -⟩; have c0 := (show At W _ _ _ from i0 _ rfl).cell; have c3 := (show At W _ _ _ from i3 _ rfl).cell; go_simp; (try with_reducible rfl))
             simp only [Act.put, List.getElem_toArray, List.getElem_cons_succ, List.getElem_cons_zero, List.setIfInBounds_toArray, List.set_cons_zero, List.set_cons_succ]
             refine wpI_takeP (i := 5) (v := ?_) rfl (by kernel_rfl) (by kernel_rfl) (by kernel_rfl) (by first | exact fun _ _ _ h => h | exact fun _ _ _ h => HQ0.out _ _ _ _ _ h) (Or.inl ⟨by rfl, ?hy⟩) ?_
             case hy => (intro W; go_simp; (try with_reducible rfl))
             simp only [Act.put, List.getElem_toArray, List.getElem_cons_succ, List.getElem_cons_zero, List.setIfInBounds_toArray, List.set_cons_zero, List.set_cons_succ]
             refine wpI_one (i := 6) rfl (by kernel_rfl) ?_
             (try simp only [Act.put, List.getElem_toArray, List.getElem_cons_succ, List.getElem_cons_zero, List.setIfInBounds_toArray, List.set_cons_zero, List.set_cons_succ])
             go_wp2_with (first
                 | go_skip
                 | ((with_reducible refine at_mapUpdate_ ?_); refine wpList_mapUpdate_m rfl _ _ _ rfl mapTy_frag 4 hM rfl rfl (⟨ps, pd, pr, pid⟩ : KNm) rfl (keyOk_Nm HNK.out) gn rfl ?_; clear hM; intro W hM)
                 | ((with_reducible refine at_box_ ?_); refine wpList_box_mem rfl _ _ rfl _ rfl hM ?_; clear hM; intro gb W hM; first | (simp only [List.nil_append] at hM) | (simp only [List.cons_append, List.nil_append] at hM)))
             refine contI_normal ⟨fun r hr => hM.get 0 hr, fun r hr => hM.get 3 hr, trivial⟩ ?_
             (try simp only [Act.put, List.getElem_toArray, List.getElem_cons_succ, List.getElem_cons_zero, List.setIfInBounds_toArray, List.set_cons_zero, List.set_cons_succ])
             refine wpI_done (by kernel_rfl) ?_ _
             (try simp only [Act.put, List.getElem_toArray, List.getElem_cons_succ, List.getElem_cons_zero, List.setIfInBounds_toArray, List.set_cons_zero, List.set_cons_succ])
             have hp1 := put_none HNO.out gn newF
             have hp2 : es.map eR ++ [wR gn newF] = (es ++ [(⟨⟨ps, pd, pr, pid⟩, gn, newF⟩ : FE)]).map eR := by rw [List.map_append]; rfl
             have hM2 : MemX E w W (atR gk 113 [.int .u32 ps, .int .u32 pd, .int .i64 pr, .int .i64 pid] :: atR g4 40 zPacket :: atR gp 40 [.int .u32 ps, .int .u32 pd, .int .i64 pr, .int .i64 ptl, .int .i64 pid, .bool df, .bool mf, .int .i64 off, .string pb] :: tbR g gm :: mapR Try.prog 113 fNm fGP gm (mPut (es.map eP) ⟨ps, pd, pr, pid⟩ gn) :: (es.map eR ++ [wR gn newF])) := hM
             rw [hp1, hp2] at hM2
             have HK := Lib.hid (show MidR E w g gm es [atR gk 113 [.int .u32 ps, .int .u32 pd, .int .i64 pr, .int .i64 pid], atR g4 40 zPacket, atR gp 40 [.int .u32 ps, .int .u32 pd, .int .i64 pr, .int .i64 ptl, .int .i64 pid, .bool df, .bool mf, .int .i64 off, .string pb]] ⟨ps, pd, pr, pid⟩ (.pointer (some ⟨gn, 0, none⟩)) W from
               ⟨es ++ [(⟨⟨ps, pd, pr, pid⟩, gn, newF⟩ : FE)], es.length, (⟨⟨ps, pd, pr, pid⟩, gn, newF⟩ : FE), rfl, hM2, HI.out.push HNO.out newF_ok HL7.out, by simp, rfl, .inr ⟨HNO.out, HL7.out, rfl, rfl, rfl⟩⟩)
             clear hM hM2 hp1 hp2
             go_wp2_with fail
             go_meet
             case rel => exact HK.out
       case rest =>
        obtain ⟨es1, i, e, hv, hM2, hI1, he, hk, ho⟩ := hcut
        subst hv
        clear hM HLR
        have hM := hM2
        clear hM2
        obtain ⟨fr, hfr⟩ : ∃ fr : Nat, 8 * off = (fr : Int) := ⟨(8 * off).toNat, by omega⟩
        have HTL := Lib.hid (fun r is er es' (h : TailR es1 i e ⟨ps, pd, pr, ptl, pid, df, mf, off, pb⟩ fr r is er es') => HIN.out r is er es' (by
          have e1 : (8 * off).toNat = fr := by omega
          rcases ho with h1 | ⟨h1, h2, h3, h4, h5⟩
          · subst h1
            exact .inr (.inl ⟨i, e, he, hk, by show TailR _ _ _ _ (8 * off).toNat _ _ _ _; rw [e1]; exact h⟩)
          · refine .inr (.inr ⟨h1, h2, e.g, ?_⟩)
            show TailR _ _ _ _ (8 * off).toNat _ _ _ _
            rw [e1, ← h3]
            have h6 : (⟨keyP ⟨ps, pd, pr, ptl, pid, df, mf, off, pb⟩, e.g, newF⟩ : FE) = e := h4.symm
            rw [h6, ← h5]
            exact h))
        have HFO := Lib.hid (hI1.ok e (List.mem_of_getElem? he))
        have hfb : fr + pb.size ≤ 4000 := by have := HQ3.out; omega
        have HPU := Lib.hid (fun W h => put_any e.g e.f ⟨ps, pd, pr, ptl, pid, df, mf, off, pb⟩ fr W h HFO.out hfb)
        have HDEL := Lib.hid (show mDel (es1.map eP) ⟨ps, pd, pr, pid⟩ = (es1.eraseIdx i).map eP from by rw [← hk]; exact hI1.del he)
        have HER := Lib.hid (hI1.erase i)
        have HSET := Lib.hid (fun f' (h : FgOk f') => hI1.set (e' := ⟨e.k, e.g, f'⟩) he rfl h)
        have HSP := Lib.hid (fun f' => set_eP (e' := ⟨e.k, e.g, f'⟩) he rfl rfl)
        have HSF := Lib.hid (fun f' => (set_front (e' := ⟨e.k, e.g, f'⟩) he).map eR)
        replace hM := hM.perm (show ([atR gk 113 [.int .u32 ps, .int .u32 pd, .int .i64 pr, .int .i64 pid], atR g4 40 zPacket, atR gp 40 [.int .u32 ps, .int .u32 pd, .int .i64 pr, .int .i64 ptl, .int .i64 pid, .bool df, .bool mf, .int .i64 off, .string pb]] ++ fgL g gm es1).Perm (eR e :: (atR gk 113 [.int .u32 ps, .int .u32 pd, .int .i64 pr, .int .i64 pid] :: atR g4 40 zPacket :: atR gp 40 [.int .u32 ps, .int .u32 pd, .int .i64 pr, .int .i64 ptl, .int .i64 pid, .bool df, .bool mf, .int .i64 off, .string pb] :: tbR g gm :: mpR gm es1 :: (es1.eraseIdx i).map eR)) from
          (List.Perm.append_left ([atR gk 113 [.int .u32 ps, .int .u32 pd, .int .i64 pr, .int .i64 pid], atR g4 40 zPacket, atR gp 40 [.int .u32 ps, .int .u32 pd, .int .i64 pr, .int .i64 ptl, .int .i64 pid, .bool df, .bool mf, .int .i64 off, .string pb]] ++ [tbR g gm, mpR gm es1]) ((front_fe he).map eR)).trans (List.perm_middle (l₁ := [atR gk 113 [.int .u32 ps, .int .u32 pd, .int .i64 pr, .int .i64 pid], atR g4 40 zPacket, atR gp 40 [.int .u32 ps, .int .u32 pd, .int .i64 pr, .int .i64 ptl, .int .i64 pid, .bool df, .bool mf, .int .i64 off, .string pb]] ++ [tbR g gm, mpR gm es1])))
        replace hM : MemX E w wc (wR e.g e.f :: (atR gk 113 [.int .u32 ps, .int .u32 pd, .int .i64 pr, .int .i64 pid] :: atR g4 40 zPacket :: atR gp 40 [.int .u32 ps, .int .u32 pd, .int .i64 pr, .int .i64 ptl, .int .i64 pid, .bool df, .bool mf, .int .i64 off, .string pb] :: tbR g gm :: mpR gm es1 :: (es1.eraseIdx i).map eR)) := hM
        generalize hee : e.f = ef at *
        generalize hgg : e.g = eg at *
        rw [hfr]
        simp only [pkC] at HPU
        go_upto_region 17 with (fail)
        go_wp2_with         (first
          | go_skip
          | ((with_reducible refine at_box_ ?_); refine wpList_box_mem rfl _ _ rfl _ rfl hM ?_; clear hM; intro gb W hM; first | (simp only [List.nil_append] at hM) | (simp only [List.cons_append, List.nil_append] at hM))
          | ((with_reducible refine at_alloc_ (T := 40) ?_); refine wpList_alloc_mem rfl 40 rfl _ zv_Packet _ rfl hM ?_; clear hM; intro gb W hM; first | (simp only [List.nil_append] at hM) | (simp only [List.cons_append, List.nil_append] at hM))
          | ((with_reducible refine at_load_ (T := 40) ?_); refine at_wanted_ (by rfl) ?_; first | (refine wpList_loadg_mem (by go_simp) 40 _ rfl 0 _ _ _ hM rfl rfl _ Try.underlying40 rfl sz_Packet ?_) | (refine wpList_loadg_mem (by go_simp) 40 _ rfl 1 _ _ _ hM rfl rfl _ Try.underlying40 rfl sz_Packet ?_) | (refine wpList_loadg_mem (by go_simp) 40 _ rfl 2 _ _ _ hM rfl rfl _ Try.underlying40 rfl sz_Packet ?_) | (refine wpList_loadg_mem (by go_simp) 40 _ rfl 3 _ _ _ hM rfl rfl _ Try.underlying40 rfl sz_Packet ?_))
          | ((with_reducible refine at_store_ (T := 40) ?_); first | (refine wpList_store_mem rfl 40 _ _ rfl 0 _ _ _ _ hM rfl rfl rfl rfl sz_Packet rfl ?_; clear hM; intro W hM; simp only [List.set_cons_zero] at hM) | (refine wpList_store_mem rfl 40 _ _ rfl 1 _ _ _ _ hM rfl rfl rfl rfl sz_Packet rfl ?_; clear hM; intro W hM; simp only [List.set_cons_succ, List.set_cons_zero] at hM) | (refine wpList_store_mem rfl 40 _ _ rfl 2 _ _ _ _ hM rfl rfl rfl rfl sz_Packet rfl ?_; clear hM; intro W hM; simp only [List.set_cons_succ, List.set_cons_zero] at hM) | (refine wpList_store_mem rfl 40 _ _ rfl 3 _ _ _ _ hM rfl rfl rfl rfl sz_Packet rfl ?_; clear hM; intro W hM; simp only [List.set_cons_succ, List.set_cons_zero] at hM))
          | ((with_reducible refine at_load_ ?_); refine at_wanted_ (by rfl) ?_; first | (refine wpList_loadf_mem (by go_simp) _ _ rfl (by kernel_rfl) 0 _ _ _ _ _ hM rfl rfl (by first | rfl | assumption) ?_) | (refine wpList_loadf_mem (by go_simp) _ _ rfl (by kernel_rfl) 1 _ _ _ _ _ hM rfl rfl (by first | rfl | assumption) ?_) | (refine wpList_loadf_mem (by go_simp) _ _ rfl (by kernel_rfl) 2 _ _ _ _ _ hM rfl rfl (by first | rfl | assumption) ?_) | (refine wpList_loadf_mem (by go_simp) _ _ rfl (by kernel_rfl) 3 _ _ _ _ _ hM rfl rfl (by first | rfl | assumption) ?_))
          | ((with_reducible refine at_store_ ?_); first | (refine wpList_store1_mem rfl _ _ _ rfl 0 _ _ _ _ _ hM rfl rfl (by first | ((conv => lhs; whnf); done) | ((conv => lhs; whnf); rfl)) (by rfl) (by rfl) (by kernel_rfl) rfl ?_; clear hM; intro W hM; simp only [List.set_cons_succ, List.set_cons_zero] at hM) | (refine wpList_store1_mem rfl _ _ _ rfl 1 _ _ _ _ _ hM rfl rfl (by first | ((conv => lhs; whnf); done) | ((conv => lhs; whnf); rfl)) (by rfl) (by rfl) (by kernel_rfl) rfl ?_; clear hM; intro W hM; simp only [List.set_cons_succ, List.set_cons_zero] at hM) | (refine wpList_store1_mem rfl _ _ _ rfl 2 _ _ _ _ _ hM rfl rfl (by first | ((conv => lhs; whnf); done) | ((conv => lhs; whnf); rfl)) (by rfl) (by rfl) (by kernel_rfl) rfl ?_; clear hM; intro W hM; simp only [List.set_cons_succ, List.set_cons_zero] at hM) | (refine wpList_store1_mem rfl _ _ _ rfl 3 _ _ _ _ _ hM rfl rfl (by first | ((conv => lhs; whnf); done) | ((conv => lhs; whnf); rfl)) (by rfl) (by rfl) (by kernel_rfl) rfl ?_; clear hM; intro W hM; simp only [List.set_cons_succ, List.set_cons_zero] at hM)))
        refine (HPU.out _ (show MemX E w _ ([wR eg ef] ++ (atR gk 113 [.int .u32 ps, .int .u32 pd, .int .i64 pr, .int .i64 pid] :: atR g4 40 zPacket :: atR gp 40 [.int .u32 ps, .int .u32 pd, .int .i64 pr, .int .i64 ptl, .int .i64 pid, .bool df, .bool mf, .int .i64 off, .string pb] :: tbR g gm :: mpR gm es1 :: (es1.eraseIdx i).map eR)) from hM).hand).mono ?_
        rintro x W hpp
        have hM3 := show MemX E w wc ([wR eg ef] ++ (atR gk 113 [.int .u32 ps, .int .u32 pd, .int .i64 pr, .int .i64 pid] :: atR g4 40 zPacket :: atR gp 40 [.int .u32 ps, .int .u32 pd, .int .i64 pr, .int .i64 ptl, .int .i64 pid, .bool df, .bool mf, .int .i64 off, .string pb] :: tbR g gm :: mpR gm es1 :: (es1.eraseIdx i).map eR)) from hM
        clear hM
        rcases hpp with ⟨hok, rfl, hM6⟩ | ⟨hno, rfl, hM6⟩
        · have hM := hM3.back hM6
          clear hM3 hM6
          have HOK := Lib.hid hok
          have HF2 := Lib.hid (okPut_size HFO.out (p := ⟨ps, pd, pr, ptl, pid, df, mf, off, pb⟩) (fr := fr) hfb)
          clear hok
          dsimp only
          have HWT := Lib.hid (fun (hd : doneB (putF ef ⟨ps, pd, pr, ptl, pid, df, mf, off, pb⟩ fr) = false) => HTL.out zPk false 0 _ (.inr (.inl ⟨by rw [hee]; exact HOK.out, by rw [hee]; exact hd, rfl, rfl, rfl, rfl⟩)))
          have HWD := Lib.hid (fun (hd : doneB (putF ef ⟨ps, pd, pr, ptl, pid, df, mf, off, pb⟩ fr) = true) => HTL.out (wholeP (putF ef ⟨ps, pd, pr, ptl, pid, df, mf, off, pb⟩ fr)) true 0 _ (.inr (.inr ⟨by rw [hee]; exact HOK.out, by rw [hee]; exact hd, by rw [hee], rfl, rfl, rfl⟩)))
          simp only [hee, hgg] at HWT HWD
          clear HTL HIN
          generalize putF ef ⟨ps, pd, pr, ptl, pid, df, mf, off, pb⟩ fr = pf at *
          replace hM : MemX E w W (wR eg pf :: atR gk 113 [.int .u32 ps, .int .u32 pd, .int .i64 pr, .int .i64 pid] :: atR g4 40 zPacket :: atR gp 40 [.int .u32 ps, .int .u32 pd, .int .i64 pr, .int .i64 ptl, .int .i64 pid, .bool df, .bool mf, .int .i64 off, .string pb] :: tbR g gm :: mpR gm es1 :: (es1.eraseIdx i).map eR) := hM
          have HDN := Lib.hid (done_any eg pf W (hM.at_ 0 rfl) HF2.out)
          obtain ⟨dn, hdn⟩ : ∃ z, z = doneB pf := ⟨_, rfl⟩
          rw [← hdn] at HDN
          rw [← hdn] at HWT HWD
          have HDE := Lib.hid hdn
          clear hdn
          cases dn
          · have HR := Lib.hid (HWT.out rfl)
            go_wp2_with (first
              | go_skip
              | (go_at_call 51; refine HDN.out.mono ?_; rintro x W ⟨rfl, hb⟩; replace hM := hM.kept hb; clear hb)
              | ((with_reducible refine at_box_ ?_); refine wpList_box_mem rfl _ _ rfl _ rfl hM ?_; clear hM; intro gb W hM; first | (simp only [List.nil_append] at hM) | (simp only [List.cons_append, List.nil_append] at hM))
              | ((with_reducible refine at_alloc_ (T := 40) ?_); refine wpList_alloc_mem rfl 40 rfl _ zv_Packet _ rfl hM ?_; clear hM; intro gb W hM; first | (simp only [List.nil_append] at hM) | (simp only [List.cons_append, List.nil_append] at hM))
              | ((with_reducible refine at_load_ (T := 40) ?_); refine at_wanted_ (by rfl) ?_; first | (refine wpList_loadg_mem (by go_simp) 40 _ rfl 0 _ _ _ hM rfl rfl _ Try.underlying40 rfl sz_Packet ?_) | (refine wpList_loadg_mem (by go_simp) 40 _ rfl 1 _ _ _ hM rfl rfl _ Try.underlying40 rfl sz_Packet ?_) | (refine wpList_loadg_mem (by go_simp) 40 _ rfl 2 _ _ _ hM rfl rfl _ Try.underlying40 rfl sz_Packet ?_) | (refine wpList_loadg_mem (by go_simp) 40 _ rfl 3 _ _ _ hM rfl rfl _ Try.underlying40 rfl sz_Packet ?_) | (refine wpList_loadg_mem (by go_simp) 40 _ rfl 4 _ _ _ hM rfl rfl _ Try.underlying40 rfl sz_Packet ?_))
              | ((with_reducible refine at_store_ (T := 40) ?_); first | (refine wpList_store_mem rfl 40 _ _ rfl 0 _ _ _ _ hM rfl rfl rfl rfl sz_Packet rfl ?_; clear hM; intro W hM; simp only [List.set_cons_zero] at hM) | (refine wpList_store_mem rfl 40 _ _ rfl 1 _ _ _ _ hM rfl rfl rfl rfl sz_Packet rfl ?_; clear hM; intro W hM; simp only [List.set_cons_succ, List.set_cons_zero] at hM) | (refine wpList_store_mem rfl 40 _ _ rfl 2 _ _ _ _ hM rfl rfl rfl rfl sz_Packet rfl ?_; clear hM; intro W hM; simp only [List.set_cons_succ, List.set_cons_zero] at hM) | (refine wpList_store_mem rfl 40 _ _ rfl 3 _ _ _ _ hM rfl rfl rfl rfl sz_Packet rfl ?_; clear hM; intro W hM; simp only [List.set_cons_succ, List.set_cons_zero] at hM) | (refine wpList_store_mem rfl 40 _ _ rfl 4 _ _ _ _ hM rfl rfl rfl rfl sz_Packet rfl ?_; clear hM; intro W hM; simp only [List.set_cons_succ, List.set_cons_zero] at hM))
              | ((with_reducible refine at_load_ ?_); refine at_wanted_ (by rfl) ?_; first | (refine wpList_loadf_mem (by go_simp) _ _ rfl (by kernel_rfl) 0 _ _ _ _ _ hM rfl rfl (by first | rfl | assumption) ?_) | (refine wpList_loadf_mem (by go_simp) _ _ rfl (by kernel_rfl) 1 _ _ _ _ _ hM rfl rfl (by first | rfl | assumption) ?_) | (refine wpList_loadf_mem (by go_simp) _ _ rfl (by kernel_rfl) 2 _ _ _ _ _ hM rfl rfl (by first | rfl | assumption) ?_) | (refine wpList_loadf_mem (by go_simp) _ _ rfl (by kernel_rfl) 3 _ _ _ _ _ hM rfl rfl (by first | rfl | assumption) ?_) | (refine wpList_loadf_mem (by go_simp) _ _ rfl (by kernel_rfl) 4 _ _ _ _ _ hM rfl rfl (by first | rfl | assumption) ?_))
              | ((with_reducible refine at_store_ ?_); first | (refine wpList_store1_mem rfl _ _ _ rfl 0 _ _ _ _ _ hM rfl rfl (by first | ((conv => lhs; whnf); done) | ((conv => lhs; whnf); rfl)) (by rfl) (by rfl) (by kernel_rfl) rfl ?_; clear hM; intro W hM; simp only [List.set_cons_succ, List.set_cons_zero] at hM) | (refine wpList_store1_mem rfl _ _ _ rfl 1 _ _ _ _ _ hM rfl rfl (by first | ((conv => lhs; whnf); done) | ((conv => lhs; whnf); rfl)) (by rfl) (by rfl) (by kernel_rfl) rfl ?_; clear hM; intro W hM; simp only [List.set_cons_succ, List.set_cons_zero] at hM) | (refine wpList_store1_mem rfl _ _ _ rfl 2 _ _ _ _ _ hM rfl rfl (by first | ((conv => lhs; whnf); done) | ((conv => lhs; whnf); rfl)) (by rfl) (by rfl) (by kernel_rfl) rfl ?_; clear hM; intro W hM; simp only [List.set_cons_succ, List.set_cons_zero] at hM) | (refine wpList_store1_mem rfl _ _ _ rfl 3 _ _ _ _ _ hM rfl rfl (by first | ((conv => lhs; whnf); done) | ((conv => lhs; whnf); rfl)) (by rfl) (by rfl) (by kernel_rfl) rfl ?_; clear hM; intro W hM; simp only [List.set_cons_succ, List.set_cons_zero] at hM) | (refine wpList_store1_mem rfl _ _ _ rfl 4 _ _ _ _ _ hM rfl rfl (by first | ((conv => lhs; whnf); done) | ((conv => lhs; whnf); rfl)) (by rfl) (by rfl) (by kernel_rfl) rfl ?_; clear hM; intro W hM; simp only [List.set_cons_succ, List.set_cons_zero] at hM)))
            have c0 := hM.cells 2 rfl
            (try simp only [zPacket] at c0)
            refine bodyPost_ret (v := .tuple #[.agg (pkC zPk).toArray, .bool false, .int .i64 0]) (by simp [results, Try.results36, go_sem, c0, pkC, zPk]) rfl ?_
            have h1 := hM.perm (show (wR eg pf :: ([atR gk 113 [.int .u32 ps, .int .u32 pd, .int .i64 pr, .int .i64 pid], atR g4 40 zPacket, atR gp 40 [.int .u32 ps, .int .u32 pd, .int .i64 pr, .int .i64 ptl, .int .i64 pid, .bool df, .bool mf, .int .i64 off, .string pb]] ++ (tbR g gm :: mpR gm es1 :: (es1.eraseIdx i).map eR))).Perm ([atR gk 113 [.int .u32 ps, .int .u32 pd, .int .i64 pr, .int .i64 pid], atR g4 40 zPacket, atR gp 40 [.int .u32 ps, .int .u32 pd, .int .i64 pr, .int .i64 ptl, .int .i64 pid, .bool df, .bool mf, .int .i64 off, .string pb]] ++ (tbR g gm :: mpR gm es1 :: (wR eg pf :: (es1.eraseIdx i).map eR))) from by
              have := (List.perm_middle (a := wR eg pf) (l₁ := [atR gk 113 [.int .u32 ps, .int .u32 pd, .int .i64 pr, .int .i64 pid], atR g4 40 zPacket, atR gp 40 [.int .u32 ps, .int .u32 pd, .int .i64 pr, .int .i64 ptl, .int .i64 pid, .bool df, .bool mf, .int .i64 off, .string pb]] ++ [tbR g gm, mpR gm es1]) (l₂ := (es1.eraseIdx i).map eR)).symm
              exact this)
            have h2 := h1.drop_
            have h3 := h2.perm (List.Perm.cons _ (List.Perm.cons _ (HSF.out pf).symm))
            have e1 : mpR gm (es1.set i ⟨e.k, eg, pf⟩) = mpR gm es1 := by unfold mpR; rw [HSP.out pf]
            rw [← e1] at h3
            exact ⟨zPk, false, 0, es1.set i ⟨e.k, eg, pf⟩, rfl, h3, HSET.out pf HF2.out, HR.out⟩
          · have HR := Lib.hid (HWD.out rfl)
            go_upto_region 22 with         (first
          | go_skip
          | (go_at_call 51; refine HDN.out.mono ?_; rintro x W ⟨rfl, hb⟩; replace hM := hM.kept hb; clear hb)
          | ((with_reducible refine at_box_ ?_); refine wpList_box_mem rfl _ _ rfl _ rfl hM ?_; clear hM; intro gb W hM; first | (simp only [List.nil_append] at hM) | (simp only [List.cons_append, List.nil_append] at hM))
          | ((with_reducible refine at_alloc_ (T := 40) ?_); refine wpList_alloc_mem rfl 40 rfl _ zv_Packet _ rfl hM ?_; clear hM; intro gb W hM; first | (simp only [List.nil_append] at hM) | (simp only [List.cons_append, List.nil_append] at hM))
          | ((with_reducible refine at_load_ (T := 40) ?_); refine at_wanted_ (by rfl) ?_; first | (refine wpList_loadg_mem (by go_simp) 40 _ rfl 0 _ _ _ hM rfl rfl _ Try.underlying40 rfl sz_Packet ?_) | (refine wpList_loadg_mem (by go_simp) 40 _ rfl 1 _ _ _ hM rfl rfl _ Try.underlying40 rfl sz_Packet ?_) | (refine wpList_loadg_mem (by go_simp) 40 _ rfl 2 _ _ _ hM rfl rfl _ Try.underlying40 rfl sz_Packet ?_) | (refine wpList_loadg_mem (by go_simp) 40 _ rfl 3 _ _ _ hM rfl rfl _ Try.underlying40 rfl sz_Packet ?_) | (refine wpList_loadg_mem (by go_simp) 40 _ rfl 4 _ _ _ hM rfl rfl _ Try.underlying40 rfl sz_Packet ?_))
          | ((with_reducible refine at_store_ (T := 40) ?_); first | (refine wpList_store_mem rfl 40 _ _ rfl 0 _ _ _ _ hM rfl rfl rfl rfl sz_Packet rfl ?_; clear hM; intro W hM; simp only [List.set_cons_zero] at hM) | (refine wpList_store_mem rfl 40 _ _ rfl 1 _ _ _ _ hM rfl rfl rfl rfl sz_Packet rfl ?_; clear hM; intro W hM; simp only [List.set_cons_succ, List.set_cons_zero] at hM) | (refine wpList_store_mem rfl 40 _ _ rfl 2 _ _ _ _ hM rfl rfl rfl rfl sz_Packet rfl ?_; clear hM; intro W hM; simp only [List.set_cons_succ, List.set_cons_zero] at hM) | (refine wpList_store_mem rfl 40 _ _ rfl 3 _ _ _ _ hM rfl rfl rfl rfl sz_Packet rfl ?_; clear hM; intro W hM; simp only [List.set_cons_succ, List.set_cons_zero] at hM) | (refine wpList_store_mem rfl 40 _ _ rfl 4 _ _ _ _ hM rfl rfl rfl rfl sz_Packet rfl ?_; clear hM; intro W hM; simp only [List.set_cons_succ, List.set_cons_zero] at hM))
          | ((with_reducible refine at_load_ ?_); refine at_wanted_ (by rfl) ?_; first | (refine wpList_loadf_mem (by go_simp) _ _ rfl (by kernel_rfl) 0 _ _ _ _ _ hM rfl rfl (by first | rfl | assumption) ?_) | (refine wpList_loadf_mem (by go_simp) _ _ rfl (by kernel_rfl) 1 _ _ _ _ _ hM rfl rfl (by first | rfl | assumption) ?_) | (refine wpList_loadf_mem (by go_simp) _ _ rfl (by kernel_rfl) 2 _ _ _ _ _ hM rfl rfl (by first | rfl | assumption) ?_) | (refine wpList_loadf_mem (by go_simp) _ _ rfl (by kernel_rfl) 3 _ _ _ _ _ hM rfl rfl (by first | rfl | assumption) ?_) | (refine wpList_loadf_mem (by go_simp) _ _ rfl (by kernel_rfl) 4 _ _ _ _ _ hM rfl rfl (by first | rfl | assumption) ?_))
          | ((with_reducible refine at_store_ ?_); first | (refine wpList_store1_mem rfl _ _ _ rfl 0 _ _ _ _ _ hM rfl rfl (by first | ((conv => lhs; whnf); done) | ((conv => lhs; whnf); rfl)) (by rfl) (by rfl) (by kernel_rfl) rfl ?_; clear hM; intro W hM; simp only [List.set_cons_succ, List.set_cons_zero] at hM) | (refine wpList_store1_mem rfl _ _ _ rfl 1 _ _ _ _ _ hM rfl rfl (by first | ((conv => lhs; whnf); done) | ((conv => lhs; whnf); rfl)) (by rfl) (by rfl) (by kernel_rfl) rfl ?_; clear hM; intro W hM; simp only [List.set_cons_succ, List.set_cons_zero] at hM) | (refine wpList_store1_mem rfl _ _ _ rfl 2 _ _ _ _ _ hM rfl rfl (by first | ((conv => lhs; whnf); done) | ((conv => lhs; whnf); rfl)) (by rfl) (by rfl) (by kernel_rfl) rfl ?_; clear hM; intro W hM; simp only [List.set_cons_succ, List.set_cons_zero] at hM) | (refine wpList_store1_mem rfl _ _ _ rfl 3 _ _ _ _ _ hM rfl rfl (by first | ((conv => lhs; whnf); done) | ((conv => lhs; whnf); rfl)) (by rfl) (by rfl) (by kernel_rfl) rfl ?_; clear hM; intro W hM; simp only [List.set_cons_succ, List.set_cons_zero] at hM) | (refine wpList_store1_mem rfl _ _ _ rfl 4 _ _ _ _ _ hM rfl rfl (by first | ((conv => lhs; whnf); done) | ((conv => lhs; whnf); rfl)) (by rfl) (by rfl) (by kernel_rfl) rfl ?_; clear hM; intro W hM; simp only [List.set_cons_succ, List.set_cons_zero] at hM)))
            refine wp_region_M [1,4] [] hM (by kernel_rfl) ?_
            clear hM
            intro wo hM
            refine wpI_takeP (i := 0) (v := ?_) rfl (by kernel_rfl) (by kernel_rfl) (by kernel_rfl) (by first | exact fun _ _ _ h => h | exact fun _ _ _ h => HQ0.out _ _ _ _ _ h) (Or.inl ⟨by rfl, ?hy⟩) ?_
            case hy => (intro W; go_simp; (try with_reducible rfl))
            simp only [Act.put, List.getElem_toArray, List.getElem_cons_succ, List.getElem_cons_zero, List.setIfInBounds_toArray, List.set_cons_zero, List.set_cons_succ]
            refine wpI_takeP (i := 1) (v := ?_) rfl (by kernel_rfl) (by kernel_rfl) (by kernel_rfl) (by first | exact fun _ _ _ h => h | exact fun _ _ _ h => HQ0.out _ _ _ _ _ h) (Or.inl ⟨by rfl, ?hy⟩) ?_
            case hy => (intro W; go_simp; (try with_reducible rfl))
            simp only [Act.put, List.getElem_toArray, List.getElem_cons_succ, List.getElem_cons_zero, List.setIfInBounds_toArray, List.set_cons_zero, List.set_cons_succ]
            refine wpI_takeP (i := 2) (v := ?_) rfl (by kernel_rfl) (by kernel_rfl) (by kernel_rfl) (by first | exact fun _ _ _ h => h | exact fun _ _ _ h => HQ0.out _ _ _ _ _ h) (Or.inl ⟨by rfl, ?hy⟩) ?_
            case hy => (intro W; go_simp; (try with_reducible rfl))
            simp only [Act.put, List.getElem_toArray, List.getElem_cons_succ, List.getElem_cons_zero, List.setIfInBounds_toArray, List.set_cons_zero, List.set_cons_succ]
            refine wpI_take (i := 3) (v := ?_) rfl (by kernel_rfl) (by kernel_rfl) (by kernel_rfl) (by kernel_rfl) (by first | exact fun _ _ _ h => h | exact fun _ _ _ h => HQ0.out _ _ _ _ _ h) ⟨fun r hr => hM.get 1 hr, fun r hr => hM.get 4 hr, trivial⟩ (Or.inl ⟨by rfl, ?hy⟩) ?_
            case hy => (rintro W ⟨i1, i4, -⟩; have c1 := (show At W _ _ _ from i1 _ rfl).cell; have c4 := (show At W _ _ _ from i4 _ rfl).cell; go_simp; (try with_reducible rfl))
            simp only [Act.put, List.getElem_toArray, List.getElem_cons_succ, List.getElem_cons_zero, List.setIfInBounds_toArray, List.set_cons_zero, List.set_cons_succ]
            refine wpI_take (i := 4) (v := ?_) rfl (by kernel_rfl) (by kernel_rfl) (by kernel_rfl) (by kernel_rfl) (by first | exact fun _ _ _ h => h | exact fun _ _ _ h => HQ0.out _ _ _ _ _ h) ⟨fun r hr => hM.get 1 hr, fun r hr => hM.get 4 hr, trivial⟩ (Or.inl ⟨by rfl, ?hy⟩) ?_
            case hy => (rintro W ⟨i1, i4, -⟩; have c1 := (show At W _ _ _ from i1 _ rfl).cell; have c4 := (show At W _ _ _ from i4 _ rfl).cell; go_simp; (try with_reducible rfl))
            simp only [Act.put, List.getElem_toArray, List.getElem_cons_succ, List.getElem_cons_zero, List.setIfInBounds_toArray, List.set_cons_zero, List.set_cons_succ]
            refine wpI_one (i := 5) rfl (by kernel_rfl) ?_
            (try simp only [Act.put, List.getElem_toArray, List.getElem_cons_succ, List.getElem_cons_zero, List.setIfInBounds_toArray, List.set_cons_zero, List.set_cons_succ])
            go_wp2_with (first
                | go_skip
                | ((with_reducible refine at_delete_ ?_); refine wpList_delete_m rfl _ _ rfl mapTy_frag 5 hM rfl rfl (⟨ps, pd, pr, pid⟩ : KNm) rfl (keyOk_Nm HNK.out) ?_; clear hM; intro W hM)
                | ((with_reducible refine at_box_ ?_); refine wpList_box_mem rfl _ _ rfl _ rfl hM ?_; clear hM; intro gb W hM; first | (simp only [List.nil_append] at hM) | (simp only [List.cons_append, List.nil_append] at hM)))
            refine contI_normal ⟨fun r hr => hM.get 1 hr, fun r hr => hM.get 4 hr, trivial⟩ ?_
            (try simp only [Act.put, List.getElem_toArray, List.getElem_cons_succ, List.getElem_cons_zero, List.setIfInBounds_toArray, List.set_cons_zero, List.set_cons_succ])
            refine wpI_done (by kernel_rfl) ?_ _
            (try simp only [Act.put, List.getElem_toArray, List.getElem_cons_succ, List.getElem_cons_zero, List.setIfInBounds_toArray, List.set_cons_zero, List.set_cons_succ])
            have hM2 : MemX E w W (wR eg pf :: atR gk 113 [.int .u32 ps, .int .u32 pd, .int .i64 pr, .int .i64 pid] :: atR g4 40 zPacket :: atR gp 40 [.int .u32 ps, .int .u32 pd, .int .i64 pr, .int .i64 ptl, .int .i64 pid, .bool df, .bool mf, .int .i64 off, .string pb] :: tbR g gm :: mapR Try.prog 113 fNm fGP gm (mDel (es1.map eP) ⟨ps, pd, pr, pid⟩) :: (es1.eraseIdx i).map eR) := hM
            rw [HDEL.out] at hM2
            clear hM
            have hM : MemX E w W (wR eg pf :: atR gk 113 [.int .u32 ps, .int .u32 pd, .int .i64 pr, .int .i64 pid] :: atR g4 40 zPacket :: atR gp 40 [.int .u32 ps, .int .u32 pd, .int .i64 pr, .int .i64 ptl, .int .i64 pid, .bool df, .bool mf, .int .i64 off, .string pb] :: tbR g gm :: mpR gm (es1.eraseIdx i) :: (es1.eraseIdx i).map eR) := hM2
            clear hM2
            have hen0 : 0 ≤ pf.en := by
              have h := HDE.out.symm
              unfold doneB at h
              rw [Bool.and_eq_true] at h
              simpa using h.1
            obtain ⟨n, hn⟩ : ∃ n : Nat, pf.en = (n : Int) := ⟨pf.en.toNat, by omega⟩
            have hn4 : n ≤ 4000 := by have := HF2.out.en2; omega
            have hn0 : (0 : Int) ≤ n := by omega
            have hn5 : (n : Int) ≤ 4000 := by omega
            have HW1 := Lib.hid (fun W (h : (wR eg pf).P W) => (⟨by rw [← hn]; exact ((show At W _ _ _ from h).cell 8000).trans (fgC_t pf 0), fg_conv HF2.out h n hn 4000⟩ : W.cell? ⟨eg, 8000, none⟩ = some (.int .i64 n) ∧ (convert 89 9 (.slice (some ⟨eg, 0, none⟩) n 4000)).run Try.prog W = .ok (.string (fgText pf)) W))
            have HFS := Lib.hid (fgC_first pf)
            obtain ⟨fi, hfi⟩ : ∃ z, z = pf.fi := ⟨_, rfl⟩
            have HFI := Lib.hid hfi
            rw [← hfi] at HFS
            clear hn hfi hen0
            go_upto_region 24 with         (first
          | go_skip
          | ((with_reducible refine at_alloc_ (T := 40) ?_); refine wpList_alloc_mem rfl 40 rfl _ zv_Packet _ rfl hM ?_; clear hM; intro g5 W hM; replace hM := fg_last hM)
          | ((with_reducible refine at_load_ (T := 40) ?_); refine wpList_loads_mem (by go_simp) 40 _ rfl 0 _ 8002 _ _ (pkC fi) hM rfl rfl HFS.out _ Try.underlying40 rfl sz_Packet ?_)
          | ((with_reducible refine at_store_ (T := 40) ?_); refine wpList_store_mem rfl 40 _ _ rfl 0 _ _ _ _ hM rfl rfl rfl rfl sz_Packet rfl ?_; clear hM; intro W hM; simp only [List.set_cons_zero] at hM)
          | ((with_reducible refine at_box_ ?_); refine wpList_box_mem rfl _ _ rfl _ rfl hM ?_; clear hM; intro gb W hM; first | (simp only [List.nil_append] at hM) | (simp only [List.cons_append, List.nil_append] at hM)))
            obtain ⟨fs, fd, fpr, ftl, fid, fdf, fmf, foff, fb⟩ := fi
            replace hM : MemX E w W (atR g5 40 [.int .u32 fs, .int .u32 fd, .int .i64 fpr, .int .i64 ftl, .int .i64 fid, .bool fdf, .bool fmf, .int .i64 foff, .string fb] :: wR eg pf :: atR gk 113 [.int .u32 ps, .int .u32 pd, .int .i64 pr, .int .i64 pid] :: atR g4 40 zPacket :: atR gp 40 [.int .u32 ps, .int .u32 pd, .int .i64 pr, .int .i64 ptl, .int .i64 pid, .bool df, .bool mf, .int .i64 off, .string pb] :: tbR g gm :: mpR gm (es1.eraseIdx i) :: (es1.eraseIdx i).map eR) := hM
            go_upto_region 24 with (fail)
            refine wp_region_M [1] [14] hM (by kernel_rfl) ?_
            clear hM
            intro wo hM
            refine wpI_takeP (i := 0) (v := ?_) rfl (by kernel_rfl) (by kernel_rfl) (by kernel_rfl) (by first | exact fun _ _ _ h => h | exact fun _ _ _ h => HQ0.out _ _ _ _ _ h) (Or.inl ⟨by rfl, ?hy⟩) ?_
            case hy => (intro W; go_simp; (try with_reducible rfl))
            simp only [Act.put, List.getElem_toArray, List.getElem_cons_succ, List.getElem_cons_zero, List.setIfInBounds_toArray, List.set_cons_zero, List.set_cons_succ]
            refine wpI_takeP (i := 1) (v := ?_) rfl (by kernel_rfl) (by kernel_rfl) (by kernel_rfl) (by first | exact fun _ _ _ h => h | exact fun _ _ _ h => HQ0.out _ _ _ _ _ h) (Or.inl ⟨by rfl, ?hy⟩) ?_
            case hy => (intro W; go_simp; (try with_reducible rfl))
            simp only [Act.put, List.getElem_toArray, List.getElem_cons_succ, List.getElem_cons_zero, List.setIfInBounds_toArray, List.set_cons_zero, List.set_cons_succ]
            refine wpI_takeP (i := 2) (v := ?_) rfl (by kernel_rfl) (by kernel_rfl) (by kernel_rfl) (by first | exact fun _ _ _ h => h | exact fun _ _ _ h => HQ0.out _ _ _ _ _ h) (Or.inl ⟨by rfl, ?hy⟩) ?_
            case hy => (intro W; go_simp; (try with_reducible rfl))
            simp only [Act.put, List.getElem_toArray, List.getElem_cons_succ, List.getElem_cons_zero, List.setIfInBounds_toArray, List.set_cons_zero, List.set_cons_succ]
            refine wpI_takeP (i := 3) (v := ?_) rfl (by kernel_rfl) (by kernel_rfl) (by kernel_rfl) (by first | exact fun _ _ _ h => h | exact fun _ _ _ h => HQ0.out _ _ _ _ _ h) (Or.inl ⟨by rfl, ?hy⟩) ?_
            case hy => (intro W; go_simp; (try with_reducible rfl))
            simp only [Act.put, List.getElem_toArray, List.getElem_cons_succ, List.getElem_cons_zero, List.setIfInBounds_toArray, List.set_cons_zero, List.set_cons_succ]
            refine wpI_takeP (i := 4) (v := ?_) rfl (by kernel_rfl) (by kernel_rfl) (by kernel_rfl) (by first | exact fun _ _ _ h => h | exact fun _ _ _ h => HQ0.out _ _ _ _ _ h) (Or.inl ⟨by rfl, ?hy⟩) ?_
            case hy => (intro W; go_simp; (try with_reducible rfl))
            simp only [Act.put, List.getElem_toArray, List.getElem_cons_succ, List.getElem_cons_zero, List.setIfInBounds_toArray, List.set_cons_zero, List.set_cons_succ]
            refine wpI_takeP (i := 5) (v := ?_) rfl (by kernel_rfl) (by kernel_rfl) (by kernel_rfl) (by first | exact fun _ _ _ h => h | exact fun _ _ _ h => HQ0.out _ _ _ _ _ h) (Or.inl ⟨by rfl, ?hy⟩) ?_
            case hy => (intro W; go_simp; (try with_reducible rfl))
            simp only [Act.put, List.getElem_toArray, List.getElem_cons_succ, List.getElem_cons_zero, List.setIfInBounds_toArray, List.set_cons_zero, List.set_cons_succ]
            refine wpI_takeT (i := 6) (v := ?_) rfl (by kernel_rfl) (by kernel_rfl) (by kernel_rfl) (by kernel_rfl) (by first | exact fun _ _ _ h => h | exact fun _ _ _ h => HQ0.out _ _ _ _ _ h) ⟨fun r hr => hM.get 1 hr, trivial⟩ (Or.inl ⟨by rfl, ?hy⟩) ?_
            case hy => (rintro W ⟨i1, -⟩; have c1 := HW1.out W (i1 _ rfl); go_simp; (try with_reducible rfl))
            simp only [Act.put, List.getElem_toArray, List.getElem_cons_succ, List.getElem_cons_zero, List.setIfInBounds_toArray, List.set_cons_zero, List.set_cons_succ]
            refine wpI_takeP (i := 7) (v := ?_) rfl (by kernel_rfl) (by kernel_rfl) (by kernel_rfl) (by first | exact fun _ _ _ h => h | exact fun _ _ _ h => HQ0.out _ _ _ _ _ h) (Or.inl ⟨by rfl, ?hy⟩) ?_
            case hy => (intro W; go_simp; (try with_reducible rfl))
            simp only [Act.put, List.getElem_toArray, List.getElem_cons_succ, List.getElem_cons_zero, List.setIfInBounds_toArray, List.set_cons_zero, List.set_cons_succ]
            refine wpI_takeT (i := 8) (v := .string (fgText pf)) rfl (by kernel_rfl) (by kernel_rfl) (by kernel_rfl) (by kernel_rfl) (by first | exact fun _ _ _ h => h | exact fun _ _ _ h => HQ0.out _ _ _ _ _ h) ⟨fun r hr => hM.get 1 hr, trivial⟩ (Or.inl ⟨by rfl, ?hy⟩) ?_
            case hy => (rintro W ⟨i1, -⟩; have c1 := HW1.out W (i1 _ rfl); exact exec_conv _ _ _ rfl _ _ rfl c1.2 W)
            simp only [Act.put, List.getElem_toArray, List.getElem_cons_succ, List.getElem_cons_zero, List.setIfInBounds_toArray, List.set_cons_zero, List.set_cons_succ]
            refine wpI_takeP (i := 9) (v := ?_) rfl (by kernel_rfl) (by kernel_rfl) (by kernel_rfl) (by first | exact fun _ _ _ h => h | exact fun _ _ _ h => HQ0.out _ _ _ _ _ h) (Or.inl ⟨by rfl, ?hy⟩) ?_
            case hy => (intro W; go_simp; (try with_reducible rfl))
            simp only [Act.put, List.getElem_toArray, List.getElem_cons_succ, List.getElem_cons_zero, List.setIfInBounds_toArray, List.set_cons_zero, List.set_cons_succ]
            refine wpI_one (i := 10) rfl (by kernel_rfl) ?_
            (try simp only [Act.put, List.getElem_toArray, List.getElem_cons_succ, List.getElem_cons_zero, List.setIfInBounds_toArray, List.set_cons_zero, List.set_cons_succ])
            go_wp2_with (first
                | go_skip
                | ((with_reducible refine at_box_ ?_); refine wpList_box_mem rfl _ _ rfl _ rfl hM ?_; clear hM; intro gb W hM; first | (simp only [List.nil_append] at hM) | (simp only [List.cons_append, List.nil_append] at hM))
                | ((with_reducible refine at_load_ ?_); refine at_wanted_ (by rfl) ?_; refine wpList_loadf_mem (by go_simp) _ _ rfl (by kernel_rfl) 0 _ _ _ _ _ hM rfl rfl (by first | rfl | assumption) ?_)
                | ((with_reducible refine at_store_ ?_); refine wpList_store1_mem rfl _ _ _ rfl 0 _ _ _ _ _ hM rfl rfl (by first | ((conv => lhs; whnf); done) | ((conv => lhs; whnf); rfl)) (by rfl) (by rfl) (by kernel_rfl) rfl ?_; clear hM; intro W hM; simp only [List.set_cons_succ, List.set_cons_zero] at hM))
            refine contI_normal ⟨fun r hr => hM.get 1 hr, trivial⟩ ?_
            (try simp only [Act.put, List.getElem_toArray, List.getElem_cons_succ, List.getElem_cons_zero, List.setIfInBounds_toArray, List.set_cons_zero, List.set_cons_succ])
            refine wpI_takeP (i := 11) (v := ?_) rfl (by kernel_rfl) (by kernel_rfl) (by kernel_rfl) (by first | exact fun _ _ _ h => h | exact fun _ _ _ h => HQ0.out _ _ _ _ _ h) (Or.inl ⟨by rfl, ?hy⟩) ?_
            case hy => (intro W; go_simp; (try with_reducible rfl))
            simp only [Act.put, List.getElem_toArray, List.getElem_cons_succ, List.getElem_cons_zero, List.setIfInBounds_toArray, List.set_cons_zero, List.set_cons_succ]
            refine wpI_one (i := 12) rfl (by kernel_rfl) ?_
            (try simp only [Act.put, List.getElem_toArray, List.getElem_cons_succ, List.getElem_cons_zero, List.setIfInBounds_toArray, List.set_cons_zero, List.set_cons_succ])
            go_wp2_with (first
                | go_skip
                | ((with_reducible refine at_box_ ?_); refine wpList_box_mem rfl _ _ rfl _ rfl hM ?_; clear hM; intro gb W hM; first | (simp only [List.nil_append] at hM) | (simp only [List.cons_append, List.nil_append] at hM))
                | ((with_reducible refine at_load_ ?_); refine at_wanted_ (by rfl) ?_; refine wpList_loadf_mem (by go_simp) _ _ rfl (by kernel_rfl) 0 _ _ _ _ _ hM rfl rfl (by first | rfl | assumption) ?_)
                | ((with_reducible refine at_store_ ?_); refine wpList_store1_mem rfl _ _ _ rfl 0 _ _ _ _ _ hM rfl rfl (by first | ((conv => lhs; whnf); done) | ((conv => lhs; whnf); rfl)) (by rfl) (by rfl) (by kernel_rfl) rfl ?_; clear hM; intro W hM; simp only [List.set_cons_succ, List.set_cons_zero] at hM))
            refine contI_normal ⟨fun r hr => hM.get 1 hr, trivial⟩ ?_
            (try simp only [Act.put, List.getElem_toArray, List.getElem_cons_succ, List.getElem_cons_zero, List.setIfInBounds_toArray, List.set_cons_zero, List.set_cons_succ])
            refine wpI_takeP (i := 13) (v := ?_) rfl (by kernel_rfl) (by kernel_rfl) (by kernel_rfl) (by first | exact fun _ _ _ h => h | exact fun _ _ _ h => HQ0.out _ _ _ _ _ h) (Or.inl ⟨by rfl, ?hy⟩) ?_
            case hy => (intro W; go_simp; (try with_reducible rfl))
            simp only [Act.put, List.getElem_toArray, List.getElem_cons_succ, List.getElem_cons_zero, List.setIfInBounds_toArray, List.set_cons_zero, List.set_cons_succ]
            refine wpI_one (i := 14) rfl (by kernel_rfl) ?_
            (try simp only [Act.put, List.getElem_toArray, List.getElem_cons_succ, List.getElem_cons_zero, List.setIfInBounds_toArray, List.set_cons_zero, List.set_cons_succ])
            go_wp2_with (first
                | go_skip
                | ((with_reducible refine at_box_ ?_); refine wpList_box_mem rfl _ _ rfl _ rfl hM ?_; clear hM; intro gb W hM; first | (simp only [List.nil_append] at hM) | (simp only [List.cons_append, List.nil_append] at hM))
                | ((with_reducible refine at_load_ ?_); refine at_wanted_ (by rfl) ?_; refine wpList_loadf_mem (by go_simp) _ _ rfl (by kernel_rfl) 0 _ _ _ _ _ hM rfl rfl (by first | rfl | assumption) ?_)
                | ((with_reducible refine at_store_ ?_); refine wpList_store1_mem rfl _ _ _ rfl 0 _ _ _ _ _ hM rfl rfl (by first | ((conv => lhs; whnf); done) | ((conv => lhs; whnf); rfl)) (by rfl) (by rfl) (by kernel_rfl) rfl ?_; clear hM; intro W hM; simp only [List.set_cons_succ, List.set_cons_zero] at hM))
            refine contI_late (by decide) ?_
            (try simp only [Act.put, List.getElem_toArray, List.getElem_cons_succ, List.getElem_cons_zero, List.setIfInBounds_toArray, List.set_cons_zero, List.set_cons_succ])
            refine wpI_done (by kernel_rfl) ?_ _
            (try simp only [Act.put, List.getElem_toArray, List.getElem_cons_succ, List.getElem_cons_zero, List.setIfInBounds_toArray, List.set_cons_zero, List.set_cons_succ])
            replace hM : MemX E w W (atR g5 40 [.int .u32 fs, .int .u32 fd, .int .i64 fpr, .int .i64 ftl, .int .i64 fid, .bool fdf, .bool false, .int .i64 0, .string (fgText pf)] :: wR eg pf :: atR gk 113 [.int .u32 ps, .int .u32 pd, .int .i64 pr, .int .i64 pid] :: atR g4 40 zPacket :: atR gp 40 [.int .u32 ps, .int .u32 pd, .int .i64 pr, .int .i64 ptl, .int .i64 pid, .bool df, .bool mf, .int .i64 off, .string pb] :: tbR g gm :: mpR gm (es1.eraseIdx i) :: (es1.eraseIdx i).map eR) := hM
            go_wp2_with (first
              | go_skip
              | ((with_reducible refine at_box_ ?_); refine wpList_box_mem rfl _ _ rfl _ rfl hM ?_; clear hM; intro gb W hM; first | (simp only [List.nil_append] at hM) | (simp only [List.cons_append, List.nil_append] at hM))
              | ((with_reducible refine at_alloc_ (T := 40) ?_); refine wpList_alloc_mem rfl 40 rfl _ zv_Packet _ rfl hM ?_; clear hM; intro gb W hM; first | (simp only [List.nil_append] at hM) | (simp only [List.cons_append, List.nil_append] at hM))
              | ((with_reducible refine at_load_ (T := 40) ?_); refine at_wanted_ (by rfl) ?_; first | (refine wpList_loadg_mem (by go_simp) 40 _ rfl 0 _ _ _ hM rfl rfl _ Try.underlying40 rfl sz_Packet ?_) | (refine wpList_loadg_mem (by go_simp) 40 _ rfl 1 _ _ _ hM rfl rfl _ Try.underlying40 rfl sz_Packet ?_) | (refine wpList_loadg_mem (by go_simp) 40 _ rfl 2 _ _ _ hM rfl rfl _ Try.underlying40 rfl sz_Packet ?_) | (refine wpList_loadg_mem (by go_simp) 40 _ rfl 3 _ _ _ hM rfl rfl _ Try.underlying40 rfl sz_Packet ?_) | (refine wpList_loadg_mem (by go_simp) 40 _ rfl 4 _ _ _ hM rfl rfl _ Try.underlying40 rfl sz_Packet ?_))
              | ((with_reducible refine at_store_ (T := 40) ?_); first | (refine wpList_store_mem rfl 40 _ _ rfl 0 _ _ _ _ hM rfl rfl rfl rfl sz_Packet rfl ?_; clear hM; intro W hM; simp only [List.set_cons_zero] at hM) | (refine wpList_store_mem rfl 40 _ _ rfl 1 _ _ _ _ hM rfl rfl rfl rfl sz_Packet rfl ?_; clear hM; intro W hM; simp only [List.set_cons_succ, List.set_cons_zero] at hM) | (refine wpList_store_mem rfl 40 _ _ rfl 2 _ _ _ _ hM rfl rfl rfl rfl sz_Packet rfl ?_; clear hM; intro W hM; simp only [List.set_cons_succ, List.set_cons_zero] at hM) | (refine wpList_store_mem rfl 40 _ _ rfl 3 _ _ _ _ hM rfl rfl rfl rfl sz_Packet rfl ?_; clear hM; intro W hM; simp only [List.set_cons_succ, List.set_cons_zero] at hM) | (refine wpList_store_mem rfl 40 _ _ rfl 4 _ _ _ _ hM rfl rfl rfl rfl sz_Packet rfl ?_; clear hM; intro W hM; simp only [List.set_cons_succ, List.set_cons_zero] at hM))
              | ((with_reducible refine at_load_ ?_); refine at_wanted_ (by rfl) ?_; first | (refine wpList_loadf_mem (by go_simp) _ _ rfl (by kernel_rfl) 0 _ _ _ _ _ hM rfl rfl (by first | rfl | assumption) ?_) | (refine wpList_loadf_mem (by go_simp) _ _ rfl (by kernel_rfl) 1 _ _ _ _ _ hM rfl rfl (by first | rfl | assumption) ?_) | (refine wpList_loadf_mem (by go_simp) _ _ rfl (by kernel_rfl) 2 _ _ _ _ _ hM rfl rfl (by first | rfl | assumption) ?_) | (refine wpList_loadf_mem (by go_simp) _ _ rfl (by kernel_rfl) 3 _ _ _ _ _ hM rfl rfl (by first | rfl | assumption) ?_) | (refine wpList_loadf_mem (by go_simp) _ _ rfl (by kernel_rfl) 4 _ _ _ _ _ hM rfl rfl (by first | rfl | assumption) ?_))
              | ((with_reducible refine at_store_ ?_); first | (refine wpList_store1_mem rfl _ _ _ rfl 0 _ _ _ _ _ hM rfl rfl (by first | ((conv => lhs; whnf); done) | ((conv => lhs; whnf); rfl)) (by rfl) (by rfl) (by kernel_rfl) rfl ?_; clear hM; intro W hM; simp only [List.set_cons_succ, List.set_cons_zero] at hM) | (refine wpList_store1_mem rfl _ _ _ rfl 1 _ _ _ _ _ hM rfl rfl (by first | ((conv => lhs; whnf); done) | ((conv => lhs; whnf); rfl)) (by rfl) (by rfl) (by kernel_rfl) rfl ?_; clear hM; intro W hM; simp only [List.set_cons_succ, List.set_cons_zero] at hM) | (refine wpList_store1_mem rfl _ _ _ rfl 2 _ _ _ _ _ hM rfl rfl (by first | ((conv => lhs; whnf); done) | ((conv => lhs; whnf); rfl)) (by rfl) (by rfl) (by kernel_rfl) rfl ?_; clear hM; intro W hM; simp only [List.set_cons_succ, List.set_cons_zero] at hM) | (refine wpList_store1_mem rfl _ _ _ rfl 3 _ _ _ _ _ hM rfl rfl (by first | ((conv => lhs; whnf); done) | ((conv => lhs; whnf); rfl)) (by rfl) (by rfl) (by kernel_rfl) rfl ?_; clear hM; intro W hM; simp only [List.set_cons_succ, List.set_cons_zero] at hM) | (refine wpList_store1_mem rfl _ _ _ rfl 4 _ _ _ _ _ hM rfl rfl (by first | ((conv => lhs; whnf); done) | ((conv => lhs; whnf); rfl)) (by rfl) (by rfl) (by kernel_rfl) rfl ?_; clear hM; intro W hM; simp only [List.set_cons_succ, List.set_cons_zero] at hM)))
            have c0 := hM.cells 3 rfl
            refine bodyPost_ret (v := .tuple #[.agg #[.int .u32 fs, .int .u32 fd, .int .i64 fpr, .int .i64 ftl, .int .i64 fid, .bool fdf, .bool false, .int .i64 0, .string (fgText pf)], .bool true, .int .i64 0]) (by simp [results, Try.results36, go_sem, c0]) rfl ?_
            have hwp : (pkC (wholeP pf)).toArray = #[.int .u32 fs, .int .u32 fd, .int .i64 fpr, .int .i64 ftl, .int .i64 fid, .bool fdf, .bool false, .int .i64 0, .string (fgText pf)] := by
              unfold wholeP
              rw [← HFI.out]; rfl
            exact ⟨wholeP pf, true, 0, _, by rw [hwp], (show MemX E w _ ([_, _, _, _, _] ++ fgL g gm (es1.eraseIdx i)) from hM).drop_, HER.out, HR.out⟩
        · have hM := hM3.back hM6
          clear hM3 hM6
          have HNO := Lib.hid hno
          clear hno
          dsimp only
          replace hM : MemX E w W (atR gk 113 [.int .u32 ps, .int .u32 pd, .int .i64 pr, .int .i64 pid] :: atR g4 40 zPacket :: atR gp 40 [.int .u32 ps, .int .u32 pd, .int .i64 pr, .int .i64 ptl, .int .i64 pid, .bool df, .bool mf, .int .i64 off, .string pb] :: tbR g gm :: mpR gm es1 :: (es1.eraseIdx i).map eR) := hM
          go_upto_region 18 with (fail)
          refine wp_region_M [0,3] [] hM (by kernel_rfl) ?_
          clear hM
          intro wo hM
          refine wpI_takeP (i := 0) (v := ?_) rfl (by kernel_rfl) (by kernel_rfl) (by kernel_rfl) (by first | exact fun _ _ _ h => h | exact fun _ _ _ h => HQ0.out _ _ _ _ _ h) (Or.inl ⟨by rfl, ?hy⟩) ?_
          case hy => (intro W; go_simp; (try with_reducible rfl))
          simp only [Act.put, List.getElem_toArray, List.getElem_cons_succ, List.getElem_cons_zero, List.setIfInBounds_toArray, List.set_cons_zero, List.set_cons_succ]
          refine wpI_takeP (i := 1) (v := ?_) rfl (by kernel_rfl) (by kernel_rfl) (by kernel_rfl) (by first | exact fun _ _ _ h => h | exact fun _ _ _ h => HQ0.out _ _ _ _ _ h) (Or.inl ⟨by rfl, ?hy⟩) ?_
          case hy => (intro W; go_simp; (try with_reducible rfl))
          simp only [Act.put, List.getElem_toArray, List.getElem_cons_succ, List.getElem_cons_zero, List.setIfInBounds_toArray, List.set_cons_zero, List.set_cons_succ]
          refine wpI_takeP (i := 2) (v := ?_) rfl (by kernel_rfl) (by kernel_rfl) (by kernel_rfl) (by first | exact fun _ _ _ h => h | exact fun _ _ _ h => HQ0.out _ _ _ _ _ h) (Or.inl ⟨by rfl, ?hy⟩) ?_
          case hy => (intro W; go_simp; (try with_reducible rfl))
          simp only [Act.put, List.getElem_toArray, List.getElem_cons_succ, List.getElem_cons_zero, List.setIfInBounds_toArray, List.set_cons_zero, List.set_cons_succ]
          refine wpI_take (i := 3) (v := ?_) rfl (by kernel_rfl) (by kernel_rfl) (by kernel_rfl) (by kernel_rfl) (by first | exact fun _ _ _ h => h | exact fun _ _ _ h => HQ0.out _ _ _ _ _ h) ⟨fun r hr => hM.get 0 hr, fun r hr => hM.get 3 hr, trivial⟩ (Or.inl ⟨by rfl, ?hy⟩) ?_
          case hy => (rintro W ⟨i0, i3, -⟩; have c0 := (show At W _ _ _ from i0 _ rfl).cell; have c3 := (show At W _ _ _ from i3 _ rfl).cell; go_simp; (try with_reducible rfl))
          simp only [Act.put, List.getElem_toArray, List.getElem_cons_succ, List.getElem_cons_zero, List.setIfInBounds_toArray, List.set_cons_zero, List.set_cons_succ]
          refine wpI_take (i := 4) (v := ?_) rfl (by kernel_rfl) (by kernel_rfl) (by kernel_rfl) (by kernel_rfl) (by first | exact fun _ _ _ h => h | exact fun _ _ _ h => HQ0.out _ _ _ _ _ h) ⟨fun r hr => hM.get 0 hr, fun r hr => hM.get 3 hr, trivial⟩ (Or.inl ⟨by rfl, ?hy⟩) ?_
          case hy => (rintro W ⟨i0, i3, -⟩; have c0 := (show At W _ _ _ from i0 _ rfl).cell; have c3 := (show At W _ _ _ from i3 _ rfl).cell; go_simp; (try with_reducible rfl))
          simp only [Act.put, List.getElem_toArray, List.getElem_cons_succ, List.getElem_cons_zero, List.setIfInBounds_toArray, List.set_cons_zero, List.set_cons_succ]
          refine wpI_one (i := 5) rfl (by kernel_rfl) ?_
          (try simp only [Act.put, List.getElem_toArray, List.getElem_cons_succ, List.getElem_cons_zero, List.setIfInBounds_toArray, List.set_cons_zero, List.set_cons_succ])
          go_wp2_with (first
              | go_skip
              | ((with_reducible refine at_delete_ ?_); refine wpList_delete_m rfl _ _ rfl mapTy_frag 4 hM rfl rfl (⟨ps, pd, pr, pid⟩ : KNm) rfl (keyOk_Nm HNK.out) ?_; clear hM; intro W hM)
              | ((with_reducible refine at_box_ ?_); refine wpList_box_mem rfl _ _ rfl _ rfl hM ?_; clear hM; intro gb W hM; first | (simp only [List.nil_append] at hM) | (simp only [List.cons_append, List.nil_append] at hM)))
          refine contI_normal ⟨fun r hr => hM.get 0 hr, fun r hr => hM.get 3 hr, trivial⟩ ?_
          (try simp only [Act.put, List.getElem_toArray, List.getElem_cons_succ, List.getElem_cons_zero, List.setIfInBounds_toArray, List.set_cons_zero, List.set_cons_succ])
          refine wpI_done (by kernel_rfl) ?_ _
          (try simp only [Act.put, List.getElem_toArray, List.getElem_cons_succ, List.getElem_cons_zero, List.setIfInBounds_toArray, List.set_cons_zero, List.set_cons_succ])
          have hM2 : MemX E w W (atR gk 113 [.int .u32 ps, .int .u32 pd, .int .i64 pr, .int .i64 pid] :: atR g4 40 zPacket :: atR gp 40 [.int .u32 ps, .int .u32 pd, .int .i64 pr, .int .i64 ptl, .int .i64 pid, .bool df, .bool mf, .int .i64 off, .string pb] :: tbR g gm :: mapR Try.prog 113 fNm fGP gm (mDel (es1.map eP) ⟨ps, pd, pr, pid⟩) :: (es1.eraseIdx i).map eR) := hM
          rw [HDEL.out] at hM2
          clear hM
          have hM : MemX E w W (atR gk 113 [.int .u32 ps, .int .u32 pd, .int .i64 pr, .int .i64 pid] :: atR g4 40 zPacket :: atR gp 40 [.int .u32 ps, .int .u32 pd, .int .i64 pr, .int .i64 ptl, .int .i64 pid, .bool df, .bool mf, .int .i64 off, .string pb] :: tbR g gm :: mpR gm (es1.eraseIdx i) :: (es1.eraseIdx i).map eR) := hM2
          clear hM2
          go_wp2_with (first
            | go_skip
            | ((with_reducible refine at_box_ ?_); refine wpList_box_mem rfl _ _ rfl _ rfl hM ?_; clear hM; intro gb W hM; first | (simp only [List.nil_append] at hM) | (simp only [List.cons_append, List.nil_append] at hM))
            | ((with_reducible refine at_alloc_ (T := 40) ?_); refine wpList_alloc_mem rfl 40 rfl _ zv_Packet _ rfl hM ?_; clear hM; intro gb W hM; first | (simp only [List.nil_append] at hM) | (simp only [List.cons_append, List.nil_append] at hM))
            | ((with_reducible refine at_load_ (T := 40) ?_); refine at_wanted_ (by rfl) ?_; first | (refine wpList_loadg_mem (by go_simp) 40 _ rfl 0 _ _ _ hM rfl rfl _ Try.underlying40 rfl sz_Packet ?_) | (refine wpList_loadg_mem (by go_simp) 40 _ rfl 1 _ _ _ hM rfl rfl _ Try.underlying40 rfl sz_Packet ?_) | (refine wpList_loadg_mem (by go_simp) 40 _ rfl 2 _ _ _ hM rfl rfl _ Try.underlying40 rfl sz_Packet ?_) | (refine wpList_loadg_mem (by go_simp) 40 _ rfl 3 _ _ _ hM rfl rfl _ Try.underlying40 rfl sz_Packet ?_))
            | ((with_reducible refine at_store_ (T := 40) ?_); first | (refine wpList_store_mem rfl 40 _ _ rfl 0 _ _ _ _ hM rfl rfl rfl rfl sz_Packet rfl ?_; clear hM; intro W hM; simp only [List.set_cons_zero] at hM) | (refine wpList_store_mem rfl 40 _ _ rfl 1 _ _ _ _ hM rfl rfl rfl rfl sz_Packet rfl ?_; clear hM; intro W hM; simp only [List.set_cons_succ, List.set_cons_zero] at hM) | (refine wpList_store_mem rfl 40 _ _ rfl 2 _ _ _ _ hM rfl rfl rfl rfl sz_Packet rfl ?_; clear hM; intro W hM; simp only [List.set_cons_succ, List.set_cons_zero] at hM) | (refine wpList_store_mem rfl 40 _ _ rfl 3 _ _ _ _ hM rfl rfl rfl rfl sz_Packet rfl ?_; clear hM; intro W hM; simp only [List.set_cons_succ, List.set_cons_zero] at hM))
            | ((with_reducible refine at_load_ ?_); refine at_wanted_ (by rfl) ?_; first | (refine wpList_loadf_mem (by go_simp) _ _ rfl (by kernel_rfl) 0 _ _ _ _ _ hM rfl rfl (by first | rfl | assumption) ?_) | (refine wpList_loadf_mem (by go_simp) _ _ rfl (by kernel_rfl) 1 _ _ _ _ _ hM rfl rfl (by first | rfl | assumption) ?_) | (refine wpList_loadf_mem (by go_simp) _ _ rfl (by kernel_rfl) 2 _ _ _ _ _ hM rfl rfl (by first | rfl | assumption) ?_) | (refine wpList_loadf_mem (by go_simp) _ _ rfl (by kernel_rfl) 3 _ _ _ _ _ hM rfl rfl (by first | rfl | assumption) ?_))
            | ((with_reducible refine at_store_ ?_); first | (refine wpList_store1_mem rfl _ _ _ rfl 0 _ _ _ _ _ hM rfl rfl (by first | ((conv => lhs; whnf); done) | ((conv => lhs; whnf); rfl)) (by rfl) (by rfl) (by kernel_rfl) rfl ?_; clear hM; intro W hM; simp only [List.set_cons_succ, List.set_cons_zero] at hM) | (refine wpList_store1_mem rfl _ _ _ rfl 1 _ _ _ _ _ hM rfl rfl (by first | ((conv => lhs; whnf); done) | ((conv => lhs; whnf); rfl)) (by rfl) (by rfl) (by kernel_rfl) rfl ?_; clear hM; intro W hM; simp only [List.set_cons_succ, List.set_cons_zero] at hM) | (refine wpList_store1_mem rfl _ _ _ rfl 2 _ _ _ _ _ hM rfl rfl (by first | ((conv => lhs; whnf); done) | ((conv => lhs; whnf); rfl)) (by rfl) (by rfl) (by kernel_rfl) rfl ?_; clear hM; intro W hM; simp only [List.set_cons_succ, List.set_cons_zero] at hM) | (refine wpList_store1_mem rfl _ _ _ rfl 3 _ _ _ _ _ hM rfl rfl (by first | ((conv => lhs; whnf); done) | ((conv => lhs; whnf); rfl)) (by rfl) (by rfl) (by kernel_rfl) rfl ?_; clear hM; intro W hM; simp only [List.set_cons_succ, List.set_cons_zero] at hM)))
          have c0 := hM.cells 1 rfl
          (try simp only [zPacket] at c0)
          refine bodyPost_ret (v := .tuple #[.agg (pkC zPk).toArray, .bool false, .int .i64 4]) (by simp [results, Try.results36, go_sem, c0, pkC, zPk]) rfl ?_
          exact ⟨zPk, false, 4, _, rfl, (show MemX E w _ ([_, _, _] ++ fgL g gm (es1.eraseIdx i)) from hM).drop_, HER.out, HTL.out _ _ _ _ (.inl ⟨by rw [hee]; exact HNO.out, rfl, rfl, rfl, rfl⟩)⟩

end Go.Proofs.Ytmcdmgnpbhkdhaa
