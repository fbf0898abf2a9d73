/- frag: what FragWhole does with one fragment. Written by my genfw.py. -/
import Derived.Test.YtmcdmgnpbhkdhaaFgA
import Derived.Test.YtmcdmgnpbhkdhaaFgZ
import Derived.Test.YtmcdmgnpbhkdhaaOrdF
import Derived.Test.YtmcdmgnpbhkdhaaKit
import Derived.Deep.CutBlock
namespace Go.Proofs.Ytmcdmgnpbhkdhaa
open Go.RowKit Go.Lib
set_option linter.unusedVariables false
set_option linter.unusedSimpArgs false

theorem eg_Packet : Try.prog.eqGuardType Try.prog.depth 40 = false := by kernel_rfl
set_option maxRecDepth 100000 in
set_option maxHeartbeats 2000000 in
theorem eqc_Packet (a0 : Int) (a1 : Int) (a2 : Int) (a3 : Int) (a4 : Int) (a5 : Bool) (a6 : Bool) (a7 : Int) (a8 : ByteArray) (b0 : Int) (b1 : Int) (b2 : Int) (b3 : Int) (b4 : Int) (b5 : Bool) (b6 : Bool) (b7 : Int) (b8 : ByteArray) (w : World) : (Op.equalIn 10000 40 (.agg #[.int .u32 a0, .int .u32 a1, .int .i64 a2, .int .i64 a3, .int .i64 a4, .bool a5, .bool a6, .int .i64 a7, .string a8]) (.agg #[.int .u32 b0, .int .u32 b1, .int .i64 b2, .int .i64 b3, .int .i64 b4, .bool b5, .bool b6, .int .i64 b7, .string b8])).run Try.prog w = .ok (decide (a0 = b0) && (decide (a1 = b1) && (decide (a2 = b2) && (decide (a3 = b3) && (decide (a4 = b4) && (decide (a5 = b5) && (decide (a6 = b6) && (decide (a7 = b7) && (decide (a8.toList = b8.toList)))))))))) w := by
  have hS : Try.prog.underlying 40 = some (.struct (Try.prog.fieldsOf 40)) := by kernel_rfl
  have hp : Try.prog.stoodInHeld 40 = false := by kernel_rfl
  rw [show (10000 : Nat) = 9999 + 1 from rfl, run_equalIn_agg w 9999 40 _ _ hS hp]
  simp only [Program.fieldsOf, Try.underlying40]
  go_simp
  simp only [ite_okb, Bool.and_true]
theorem eqT_Packet (p : Pk) (w : World) : (Op.equalIn 10000 40 (.agg (pkC p).toArray) (.agg (pkC p).toArray)).run Try.prog w = .ok true w := by
  unfold pkC
  rw [eqc_Packet]
  simp
theorem eqF_Packet (p q : Pk) (h : p ≠ q) (w : World) : (Op.equalIn 10000 40 (.agg (pkC p).toArray) (.agg (pkC q).toArray)).run Try.prog w = .ok false w := by
  unfold pkC
  rw [eqc_Packet]
  congr 1
  refine Bool.eq_false_iff.2 fun e => h ?_
  simp only [Bool.and_eq_true, decide_eq_true_eq, ByteArray.toList_eq] at e
  cases p; cases q
  obtain ⟨e0, e1, e2, e3, e4, e5, e6, e7, e8⟩ := e
  simp only at e0 e1 e2 e3 e4 e5 e6 e7 e8
  have e8 := str_ext e8
  subst e0 e1 e2 e3 e4 e5 e6 e7 e8
  rfl
theorem mapTy_ii : MapTy Try.prog 86 3 3 fInt fInt := ⟨keyed_int, Try.underlying86, fun h => fInt_inj h⟩
def fwA (gp ga gq gt gall gs gl gsm g : Nat) (p q : Pk) (va vall : Value) (L0 L1 : Nat) (rs : List Pk) (m : List (Int × Int)) : List Res :=
  [atR gp 40 (pkC p), atR ga 81 [va], atR gq 40 (pkC q), atR gt 75 [.pointer (some ⟨g, 0, none⟩)], atR gall 81 [vall], atR gs 86 [.map (some gsm)], atR gl 85 [.int .i64 L0, .int .i64 L1], rowR 9 pkC vall rs, mapR Try.prog 3 fInt fInt gsm m]
theorem getD_elim {m : List (Int × Int)} {k x : Int} (h : (mGet m k).getD 0 = x) : (mGet m k).elim (.int .i64 0) fInt = .int .i64 x := by
  rw [← h]; cases mGet m k <;> rfl

set_option maxRecDepth 100000 in
set_option maxHeartbeats 8000000 in
theorem fw_lo (gp ga gq gt gall gs gl gsm g gm g7 off7 c7 la lb N : Nat) (Aa : Option Addr) (ca : Nat) (p q : Pk) (a b : List Pk) (T : Nat → Bool) (m : List (Int × Int)) (es : List FE) (L0 L1 k : Nat) (x : Pk) {E : Nat → Prop} {w0 : World} (w : World)
    (hM0 : MemX E w0 w (atR gp 40 (pkC p) :: atR ga 81 [.slice Aa la ca] :: atR gq 40 (pkC q) :: atR gt 75 [.pointer (some ⟨g, 0, none⟩)] :: atR gall 81 [.slice (some ⟨g7, off7, none⟩) N c7] :: atR gs 86 [.map (some gsm)] :: atR gl 85 [.int .i64 L0, .int .i64 L1] :: rowR 9 pkC (.slice (some ⟨g7, off7, none⟩) N c7) (a ++ b) :: mapR Try.prog 3 fInt fInt gsm m :: fgL g gm es))
    (hla : a.length = la) (hlb : b.length = lb) (hN : N = la + lb) (hN2 : N ≤ 8002) (hp : FPk p a) (hq : FPk q b) (hne : keyP p ≠ keyP q) (hI : WInv p q a b T m es) (hm : mOk m) (hk : k < la) (hL0 : L0 = cntF T la) (hL1 : L1 = cntF (fun j => T (la + j)) lb) (hx : a[k]? = some x) (hxx : (a ++ b)[k]? = some x) :
    Calls Try.prog 40 #[.int .i64 (k : Nat), .pointer (some ⟨gp, 0, none⟩), .pointer (some ⟨ga, 0, none⟩), .pointer (some ⟨gq, 0, none⟩), .pointer (some ⟨gt, 0, none⟩), .pointer (some ⟨gall, 0, none⟩), .pointer (some ⟨gs, 0, none⟩), .pointer (some ⟨gl, 0, none⟩)] w fun e w' =>
      e = .returned (.bool true) ∧ ∃ T' m' es' L0' L1', MemX E w0 w' (atR gp 40 (pkC p) :: atR ga 81 [.slice Aa la ca] :: atR gq 40 (pkC q) :: atR gt 75 [.pointer (some ⟨g, 0, none⟩)] :: atR gall 81 [.slice (some ⟨g7, off7, none⟩) N c7] :: atR gs 86 [.map (some gsm)] :: atR gl 85 [.int .i64 (L0' : Nat), .int .i64 (L1' : Nat)] :: rowR 9 pkC (.slice (some ⟨g7, off7, none⟩) N c7) (a ++ b) :: mapR Try.prog 3 fInt fInt gsm m' :: fgL g gm es') ∧ Hid (WInv p q a b T' m' es') ∧ Hid (L0' = cntF T' la) ∧ Hid (L1' = cntF (fun j => T' (la + j)) lb) := by
  have hM := hM0
  clear hM0
  have HW8 := Lib.hid (fun (W : World) (h : (rowR 9 pkC (.slice (some ⟨g7, off7, none⟩) N c7) (a ++ b)).P W) => (row_range pkC_len h k x hxx : W.rangeAt g7 (off7 + k * 9) (pkC x)))
  have HIN := Lib.hid (fun (W : World) (h : MemX (blkE (fgL g gm es)) W W (fgL g gm es)) => (In_any g gm es x W h hI.fi (hp.lim hx)).mono (fun e w' h2 => (by
    obtain ⟨r, is, er, es', rfl, h3, h4, h5⟩ := h2
    obtain ⟨rfl, e2, e3, e4, e5⟩ := hI.lo hp hne hm hx h5 h4
    simp only [hla, hlb] at e2 e4 e5
    exact ⟨r, is, es', rfl, h3, Lib.hid e3, Lib.hid e2, Lib.hid e4, Lib.hid e5⟩ : ∃ r is es', e = .returned (.tuple #[.agg (pkC r).toArray, .bool is, .int .i64 0]) ∧ MemX (blkE (fgL g gm es)) W w' (fgL g gm es') ∧ Hid (r = if is = true then p else zPk) ∧ Hid (is = decide ((cntF (addS T k) la) = 0)) ∧ Hid (is = false → WInv p q a b (addS T k) (mrk m T k) es') ∧ Hid (is = true → ∀ m', (∀ i : Nat, i < la + lb → (mGet m' (i : Int)).getD 0 = if offS la false (addS T k) (la + lb) i = true then 1 else 0) → WInv p q a b (offS la false (addS T k) (la + lb)) m' es'))))
  have HSN := Lib.hid hI.sn
  have HKN := Lib.hid (getD_elim (hI.sn k (by omega)))
  have HMK := Lib.hid hm
  have HL0 := Lib.hid hL0
  have HL1 := Lib.hid hL1
  have HP := Lib.hid hp
  have HQ := Lib.hid hq
  have HLA := Lib.hid hla
  have HLB := Lib.hid hlb
  have HKO := Lib.hid (fun (j : Nat) (h : j < N) => keyOk_int (k := (j : Int)) (by omega))
  have HADD := Lib.hid (fun (h : T k = false) => cntF_add (S := T) (i := k) hk h)
  have hc1 : (cntF (addS T k) la) ≤ la := cntF_le _ _
  obtain ⟨C1, hC1⟩ : ∃ z : Nat, z = (cntF (addS T k) la) := ⟨_, rfl⟩
  rw [← hC1] at HADD HIN hc1
  have HC1 := Lib.hid hC1
  have hown : L0 ≤ la := by rw [hL0]; exact cntF_le _ _
  have hoth : L1 ≤ lb := by rw [hL1]; exact cntF_le _ _
  have hkN : k < N := by omega
  have q1 : decide ((la : Int) ≤ k) = false := by simp; omega
  have q1b : decide (la ≤ k) = false := by simp; omega
  have HNN := Lib.hid hN
  have hlaN : la ≤ 8002 := by omega
  have hlbN : lb ≤ 8002 := by omega
  clear hI hm hL0 hL1 hp hq hla hlb hxx hx hne hC1 hN
  go_enter Try.func40, Try.ntmps40
  go_upto_region 1 with (fail)
  refine wp_region_M [0] [3] hM (by kernel_rfl) ?_
  clear hM
  intro wo hM
  refine wpI_take (i := 0) (v := .agg (pkC p).toArray) rfl (by kernel_rfl) (by kernel_rfl) (by kernel_rfl) (by kernel_rfl) (by first | exact fun _ _ _ h => h | exact fun _ _ _ h => HQ0.out _ _ _ _ _ h) ⟨fun r hr => (by first | exact hM.get 0 hr | exact hM.get 1 hr), trivial⟩ (Or.inl ⟨by rfl, ?hy⟩) ?_
  case hy => (rintro W ⟨i0, -⟩; have c0 := (show At W _ _ _ from i0 _ rfl).cell; exact exec_loadw _ _ rfl gp 0 rfl (pkC p) _ Try.underlying40 rfl sz_Packet (range_cells c0))
  simp only [Act.put, List.getElem_toArray, List.getElem_cons_succ, List.getElem_cons_zero, List.setIfInBounds_toArray, List.set_cons_zero, List.set_cons_succ]
  refine wpI_one (i := 1) rfl (by kernel_rfl) ?_
  (try simp only [Act.put, List.getElem_toArray, List.getElem_cons_succ, List.getElem_cons_zero, List.setIfInBounds_toArray, List.set_cons_zero, List.set_cons_succ])
  go_wp2_with (first
      | go_skip
      | ((with_reducible refine at_alloc_ (T := 40) ?_); refine wpList_alloc_mem rfl 40 rfl _ zv_Packet _ rfl hM ?_; clear hM; intro gw W hM; replace hM := fg_last hM)
      | ((with_reducible refine at_store_ (T := 40) ?_); refine wpList_store_mem rfl 40 _ _ rfl 0 _ _ _ _ hM rfl rfl rfl rfl sz_Packet rfl ?_; clear hM; intro W hM; simp only [List.set_cons_zero] at hM)
      | ((with_reducible refine at_box_ ?_); refine wpList_box_mem rfl _ _ rfl _ rfl hM ?_; clear hM; intro gb W hM; first | (simp only [List.nil_append] at hM) | (simp only [List.cons_append, List.nil_append] at hM)))
  refine contI_normal ⟨fun r hr => (by first | exact hM.get 0 hr | exact hM.get 1 hr), trivial⟩ ?_
  (try simp only [Act.put, List.getElem_toArray, List.getElem_cons_succ, List.getElem_cons_zero, List.setIfInBounds_toArray, List.set_cons_zero, List.set_cons_succ])
  refine wpI_takeP (i := 2) (v := ?_) rfl (by kernel_rfl) (by kernel_rfl) (by kernel_rfl) (by first | exact fun _ _ _ h => h | exact fun _ _ _ h => HQ0.out _ _ _ _ _ h) (Or.inl ⟨by rfl, ?hy⟩) ?_
  case hy => (intro W; go_simp; (try with_reducible rfl))
  simp only [Act.put, List.getElem_toArray, List.getElem_cons_succ, List.getElem_cons_zero, List.setIfInBounds_toArray, List.set_cons_zero, List.set_cons_succ]
  refine wpI_one (i := 3) rfl (by kernel_rfl) ?_
  (try simp only [Act.put, List.getElem_toArray, List.getElem_cons_succ, List.getElem_cons_zero, List.setIfInBounds_toArray, List.set_cons_zero, List.set_cons_succ])
  go_wp2_with (first
      | go_skip
      | ((with_reducible refine at_alloc_ (T := 40) ?_); refine wpList_alloc_mem rfl 40 rfl _ zv_Packet _ rfl hM ?_; clear hM; intro gw W hM; replace hM := fg_last hM)
      | ((with_reducible refine at_store_ (T := 40) ?_); refine wpList_store_mem rfl 40 _ _ rfl 0 _ _ _ _ hM rfl rfl rfl rfl sz_Packet rfl ?_; clear hM; intro W hM; simp only [List.set_cons_zero] at hM)
      | ((with_reducible refine at_box_ ?_); refine wpList_box_mem rfl _ _ rfl _ rfl hM ?_; clear hM; intro gb W hM; first | (simp only [List.nil_append] at hM) | (simp only [List.cons_append, List.nil_append] at hM)))
  refine contI_late (by decide) ?_
  (try simp only [Act.put, List.getElem_toArray, List.getElem_cons_succ, List.getElem_cons_zero, List.setIfInBounds_toArray, List.set_cons_zero, List.set_cons_succ])
  refine wpI_done (by kernel_rfl) ?_ _
  (try simp only [Act.put, List.getElem_toArray, List.getElem_cons_succ, List.getElem_cons_zero, List.setIfInBounds_toArray, List.set_cons_zero, List.set_cons_succ])
  go_upto_region 4 with         (first
          | go_skip
          | ((with_reducible refine at_box_ ?_); refine wpList_box_mem rfl _ _ rfl _ rfl hM ?_; clear hM; intro gb W hM; first | (simp only [List.nil_append] at hM) | (simp only [List.cons_append, List.nil_append] at hM))
          | ((with_reducible refine at_load_ ?_); refine at_wanted_ (by rfl) ?_; first | (refine wpList_loadf_mem (by go_simp) _ _ rfl (by kernel_rfl) 0 _ _ _ _ _ hM rfl rfl (by first | rfl | assumption) ?_) | (refine wpList_loadf_mem (by go_simp) _ _ rfl (by kernel_rfl) 1 _ _ _ _ _ hM rfl rfl (by first | rfl | assumption) ?_) | (refine wpList_loadf_mem (by go_simp) _ _ rfl (by kernel_rfl) 2 _ _ _ _ _ hM rfl rfl (by first | rfl | assumption) ?_) | (refine wpList_loadf_mem (by go_simp) _ _ rfl (by kernel_rfl) 3 _ _ _ _ _ hM rfl rfl (by first | rfl | assumption) ?_))
          | ((with_reducible refine at_store_ ?_); first | (refine wpList_store1_mem rfl _ _ _ rfl 0 _ _ _ _ _ hM rfl rfl (by first | ((conv => lhs; whnf); done) | ((conv => lhs; whnf); rfl)) (by rfl) (by rfl) (by kernel_rfl) rfl ?_; clear hM; intro W hM; simp only [List.set_cons_succ, List.set_cons_zero] at hM) | (refine wpList_store1_mem rfl _ _ _ rfl 1 _ _ _ _ _ hM rfl rfl (by first | ((conv => lhs; whnf); done) | ((conv => lhs; whnf); rfl)) (by rfl) (by rfl) (by kernel_rfl) rfl ?_; clear hM; intro W hM; simp only [List.set_cons_succ, List.set_cons_zero] at hM) | (refine wpList_store1_mem rfl _ _ _ rfl 2 _ _ _ _ _ hM rfl rfl (by first | ((conv => lhs; whnf); done) | ((conv => lhs; whnf); rfl)) (by rfl) (by rfl) (by kernel_rfl) rfl ?_; clear hM; intro W hM; simp only [List.set_cons_succ, List.set_cons_zero] at hM) | (refine wpList_store1_mem rfl _ _ _ rfl 3 _ _ _ _ _ hM rfl rfl (by first | ((conv => lhs; whnf); done) | ((conv => lhs; whnf); rfl)) (by rfl) (by rfl) (by kernel_rfl) rfl ?_; clear hM; intro W hM; simp only [List.set_cons_succ, List.set_cons_zero] at hM)))
  go_cut [12, 13, 14] (fun v12 v13 v14 W => ∃ (gx : Nat) (r : Pk) (is : Bool) (es' : List FE), v12 = .pointer (some ⟨gx, 0, none⟩) ∧ v13 = .bool is ∧ v14 = .int .i64 0 ∧ MemX E w0 W (atR gx 40 (pkC r) :: atR gw 40 (pkC p) :: atR gp 40 (pkC p) :: atR ga 81 [.slice Aa la ca] :: atR gq 40 (pkC q) :: atR gt 75 [.pointer (some ⟨g, 0, none⟩)] :: atR gall 81 [.slice (some ⟨g7, off7, none⟩) N c7] :: atR gs 86 [.map (some gsm)] :: atR gl 85 [.int .i64 L0, .int .i64 L1] :: rowR 9 pkC (.slice (some ⟨g7, off7, none⟩) N c7) (a ++ b) :: mapR Try.prog 3 fInt fInt gsm m :: fgL g gm es') ∧ Hid (r = if is = true then p else zPk) ∧ Hid (is = decide (C1 = 0)) ∧ Hid (is = false → WInv p q a b (addS T k) (mrk m T k) es') ∧ Hid (is = true → ∀ m', (∀ i : Nat, i < la + lb → (mGet m' (i : Int)).getD 0 = if offS la false (addS T k) (la + lb) i = true then 1 else 0) → WInv p q a b (offS la false (addS T k) (la + lb)) m' es'))
  case first =>
    refine wp_region_M [4,5,8] [11] hM (by kernel_rfl) ?_
    clear hM
    intro wo hM
    refine wpI_take (i := 0) (v := ?_) rfl (by kernel_rfl) (by kernel_rfl) (by kernel_rfl) (by kernel_rfl) (by first | exact fun _ _ _ h => h | exact fun _ _ _ h => HQ0.out _ _ _ _ _ h) ⟨fun r hr => (by first | exact hM.get 4 hr | exact hM.get 5 hr), fun r hr => (by first | exact hM.get 5 hr | exact hM.get 6 hr), fun r hr => (by first | exact hM.get 8 hr | exact hM.get 9 hr), trivial⟩ (Or.inl ⟨by rfl, ?hy⟩) ?_
    case hy => (rintro W ⟨i4, i5, i8, -⟩; have c4 := (show At W _ _ _ from i4 _ rfl).cell; have c5 := (show At W _ _ _ from i5 _ rfl).cell; have c8 := HW8.out W (i8 _ rfl); go_simp; (try with_reducible rfl))
    simp only [Act.put, List.getElem_toArray, List.getElem_cons_succ, List.getElem_cons_zero, List.setIfInBounds_toArray, List.set_cons_zero, List.set_cons_succ]
    refine wpI_take (i := 1) (v := ?_) rfl (by kernel_rfl) (by kernel_rfl) (by kernel_rfl) (by kernel_rfl) (by first | exact fun _ _ _ h => h | exact fun _ _ _ h => HQ0.out _ _ _ _ _ h) ⟨fun r hr => (by first | exact hM.get 4 hr | exact hM.get 5 hr), fun r hr => (by first | exact hM.get 5 hr | exact hM.get 6 hr), fun r hr => (by first | exact hM.get 8 hr | exact hM.get 9 hr), trivial⟩ (Or.inl ⟨by rfl, ?hy⟩) ?_
    case hy => (rintro W ⟨i4, i5, i8, -⟩; have c4 := (show At W _ _ _ from i4 _ rfl).cell; have c5 := (show At W _ _ _ from i5 _ rfl).cell; have c8 := HW8.out W (i8 _ rfl); go_simp; (try with_reducible rfl))
    simp only [Act.put, List.getElem_toArray, List.getElem_cons_succ, List.getElem_cons_zero, List.setIfInBounds_toArray, List.set_cons_zero, List.set_cons_succ]
    refine wpI_takeP (i := 2) (v := ?_) rfl (by kernel_rfl) (by kernel_rfl) (by kernel_rfl) (by first | exact fun _ _ _ h => h | exact fun _ _ _ h => HQ0.out _ _ _ _ _ h) (Or.inl ⟨by rfl, ?hy⟩) ?_
    case hy => (intro W; go_simp; (try with_reducible rfl))
    simp only [Act.put, List.getElem_toArray, List.getElem_cons_succ, List.getElem_cons_zero, List.setIfInBounds_toArray, List.set_cons_zero, List.set_cons_succ]
    refine wpI_takeP (i := 3) (v := ?_) rfl (by kernel_rfl) (by kernel_rfl) (by kernel_rfl) (by first | exact fun _ _ _ h => h | exact fun _ _ _ h => HQ0.out _ _ _ _ _ h) (Or.inl ⟨by rfl, ?hy⟩) ?_
    case hy => (intro W; go_simp; (try with_reducible rfl))
    simp only [Act.put, List.getElem_toArray, List.getElem_cons_succ, List.getElem_cons_zero, List.setIfInBounds_toArray, List.set_cons_zero, List.set_cons_succ]
    refine wpI_take (i := 4) (v := .agg (pkC x).toArray) rfl (by kernel_rfl) (by kernel_rfl) (by kernel_rfl) (by kernel_rfl) (by first | exact fun _ _ _ h => h | exact fun _ _ _ h => HQ0.out _ _ _ _ _ h) ⟨fun r hr => (by first | exact hM.get 4 hr | exact hM.get 5 hr), fun r hr => (by first | exact hM.get 5 hr | exact hM.get 6 hr), fun r hr => (by first | exact hM.get 8 hr | exact hM.get 9 hr), trivial⟩ (Or.inl ⟨by rfl, ?hy⟩) ?_
    case hy => (rintro W ⟨i4, i5, i8, -⟩; have c4 := (show At W _ _ _ from i4 _ rfl).cell; have c5 := (show At W _ _ _ from i5 _ rfl).cell; have c8 := HW8.out W (i8 _ rfl); exact exec_loadw _ _ rfl g7 (off7 + k * 9) (by go_simp) (pkC x) _ Try.underlying40 rfl sz_Packet c8)
    simp only [Act.put, List.getElem_toArray, List.getElem_cons_succ, List.getElem_cons_zero, List.setIfInBounds_toArray, List.set_cons_zero, List.set_cons_succ]
    refine wpI_two (i := 5) (j := 10) rfl rfl (by kernel_rfl) ?_ ?_
    · (try simp only [Act.put, List.getElem_toArray, List.getElem_cons_succ, List.getElem_cons_zero, List.setIfInBounds_toArray, List.set_cons_zero, List.set_cons_succ])
      go_wp2_with (first
          | go_skip
          | ((with_reducible refine at_alloc_ (T := 40) ?_); refine wpList_alloc_mem rfl 40 rfl _ zv_Packet _ rfl hM ?_; clear hM; intro gx W hM; replace hM := fg_last hM)
          | ((with_reducible refine at_store_ (T := 40) ?_); refine wpList_store_mem rfl 40 _ _ rfl 0 _ _ _ _ hM rfl rfl rfl rfl sz_Packet rfl ?_; clear hM; intro W hM; simp only [List.set_cons_zero] at hM)
          | (go_at_call 36; ((first | (refine (HIN.out _ (fg_hand [_, _, _, _, _, _, _, _, _, _] hM)).mono ?_; rintro e W ⟨r, is, es', rfl, hM6, HR, HIS, HW1, HW2⟩; replace hM := fg_back [_, _, _, _, _, _, _, _, _, _] hM hM6) | (refine (HIN.out _ (fg_hand [_, _, _, _, _, _, _, _, _, _, _] hM)).mono ?_; rintro e W ⟨r, is, es', rfl, hM6, HR, HIS, HW1, HW2⟩; replace hM := fg_back [_, _, _, _, _, _, _, _, _, _, _] hM hM6)); clear hM6; simp only [List.cons_append, List.nil_append] at hM; dsimp only))
          | ((with_reducible refine at_box_ ?_); refine wpList_box_mem rfl _ _ rfl _ rfl hM ?_; clear hM; intro gb W hM; first | (simp only [List.nil_append] at hM) | (simp only [List.cons_append, List.nil_append] at hM)))
      refine contI_normal ⟨fun r hr => (by first | exact hM.get 4 hr | exact hM.get 5 hr), fun r hr => (by first | exact hM.get 5 hr | exact hM.get 6 hr), fun r hr => (by first | exact hM.get 8 hr | exact hM.get 9 hr), trivial⟩ ?_
      (try simp only [Act.put, List.getElem_toArray, List.getElem_cons_succ, List.getElem_cons_zero, List.setIfInBounds_toArray, List.set_cons_zero, List.set_cons_succ])
      refine wpI_takeP (i := 6) (v := ?_) rfl (by kernel_rfl) (by kernel_rfl) (by kernel_rfl) (by first | exact fun _ _ _ h => h | exact fun _ _ _ h => HQ0.out _ _ _ _ _ h) (Or.inl ⟨by rfl, ?hy⟩) ?_
      case hy => (intro W; go_simp; (try with_reducible rfl))
      simp only [Act.put, List.getElem_toArray, List.getElem_cons_succ, List.getElem_cons_zero, List.setIfInBounds_toArray, List.set_cons_zero, List.set_cons_succ]
      refine wpI_takeP (i := 7) (v := ?_) rfl (by kernel_rfl) (by kernel_rfl) (by kernel_rfl) (by first | exact fun _ _ _ h => h | exact fun _ _ _ h => HQ0.out _ _ _ _ _ h) (Or.inl ⟨by rfl, ?hy⟩) ?_
      case hy => (intro W; go_simp; (try with_reducible rfl))
      simp only [Act.put, List.getElem_toArray, List.getElem_cons_succ, List.getElem_cons_zero, List.setIfInBounds_toArray, List.set_cons_zero, List.set_cons_succ]
      refine wpI_takeP (i := 8) (v := ?_) rfl (by kernel_rfl) (by kernel_rfl) (by kernel_rfl) (by first | exact fun _ _ _ h => h | exact fun _ _ _ h => HQ0.out _ _ _ _ _ h) (Or.inl ⟨by rfl, ?hy⟩) ?_
      case hy => (intro W; go_simp; (try with_reducible rfl))
      simp only [Act.put, List.getElem_toArray, List.getElem_cons_succ, List.getElem_cons_zero, List.setIfInBounds_toArray, List.set_cons_zero, List.set_cons_succ]
      refine wpI_takeP (i := 9) (v := ?_) rfl (by kernel_rfl) (by kernel_rfl) (by kernel_rfl) (by first | exact fun _ _ _ h => h | exact fun _ _ _ h => HQ0.out _ _ _ _ _ h) (Or.inl ⟨by rfl, ?hy⟩) ?_
      case hy => (intro W; go_simp; (try with_reducible rfl))
      simp only [Act.put, List.getElem_toArray, List.getElem_cons_succ, List.getElem_cons_zero, List.setIfInBounds_toArray, List.set_cons_zero, List.set_cons_succ]
      refine wpI_one (i := 10) rfl (by kernel_rfl) ?_
      (try simp only [Act.put, List.getElem_toArray, List.getElem_cons_succ, List.getElem_cons_zero, List.setIfInBounds_toArray, List.set_cons_zero, List.set_cons_succ])
      go_wp2_with (first
          | go_skip
          | ((with_reducible refine at_alloc_ (T := 40) ?_); refine wpList_alloc_mem rfl 40 rfl _ zv_Packet _ rfl hM ?_; clear hM; intro gx W hM; replace hM := fg_last hM)
          | ((with_reducible refine at_store_ (T := 40) ?_); refine wpList_store_mem rfl 40 _ _ rfl 0 _ _ _ _ hM rfl rfl rfl rfl sz_Packet rfl ?_; clear hM; intro W hM; simp only [List.set_cons_zero] at hM)
          | (go_at_call 36; ((first | (refine (HIN.out _ (fg_hand [_, _, _, _, _, _, _, _, _, _] hM)).mono ?_; rintro e W ⟨r, is, es', rfl, hM6, HR, HIS, HW1, HW2⟩; replace hM := fg_back [_, _, _, _, _, _, _, _, _, _] hM hM6) | (refine (HIN.out _ (fg_hand [_, _, _, _, _, _, _, _, _, _, _] hM)).mono ?_; rintro e W ⟨r, is, es', rfl, hM6, HR, HIS, HW1, HW2⟩; replace hM := fg_back [_, _, _, _, _, _, _, _, _, _, _] hM hM6)); clear hM6; simp only [List.cons_append, List.nil_append] at hM; dsimp only))
          | ((with_reducible refine at_box_ ?_); refine wpList_box_mem rfl _ _ rfl _ rfl hM ?_; clear hM; intro gb W hM; first | (simp only [List.nil_append] at hM) | (simp only [List.cons_append, List.nil_append] at hM)))
      refine contI_normal ⟨fun r hr => (by first | exact hM.get 4 hr | exact hM.get 5 hr), fun r hr => (by first | exact hM.get 5 hr | exact hM.get 6 hr), fun r hr => (by first | exact hM.get 8 hr | exact hM.get 9 hr), trivial⟩ ?_
      (try simp only [Act.put, List.getElem_toArray, List.getElem_cons_succ, List.getElem_cons_zero, List.setIfInBounds_toArray, List.set_cons_zero, List.set_cons_succ])
      refine wpI_one (i := 11) rfl (by kernel_rfl) ?_
      (try simp only [Act.put, List.getElem_toArray, List.getElem_cons_succ, List.getElem_cons_zero, List.setIfInBounds_toArray, List.set_cons_zero, List.set_cons_succ])
      go_wp2_with (first
          | go_skip
          | ((with_reducible refine at_alloc_ (T := 40) ?_); refine wpList_alloc_mem rfl 40 rfl _ zv_Packet _ rfl hM ?_; clear hM; intro gx W hM; replace hM := fg_last hM)
          | ((with_reducible refine at_store_ (T := 40) ?_); refine wpList_store_mem rfl 40 _ _ rfl 0 _ _ _ _ hM rfl rfl rfl rfl sz_Packet rfl ?_; clear hM; intro W hM; simp only [List.set_cons_zero] at hM)
          | (go_at_call 36; ((first | (refine (HIN.out _ (fg_hand [_, _, _, _, _, _, _, _, _, _] hM)).mono ?_; rintro e W ⟨r, is, es', rfl, hM6, HR, HIS, HW1, HW2⟩; replace hM := fg_back [_, _, _, _, _, _, _, _, _, _] hM hM6) | (refine (HIN.out _ (fg_hand [_, _, _, _, _, _, _, _, _, _, _] hM)).mono ?_; rintro e W ⟨r, is, es', rfl, hM6, HR, HIS, HW1, HW2⟩; replace hM := fg_back [_, _, _, _, _, _, _, _, _, _, _] hM hM6)); clear hM6; simp only [List.cons_append, List.nil_append] at hM; dsimp only))
          | ((with_reducible refine at_box_ ?_); refine wpList_box_mem rfl _ _ rfl _ rfl hM ?_; clear hM; intro gb W hM; first | (simp only [List.nil_append] at hM) | (simp only [List.cons_append, List.nil_append] at hM)))
      refine contI_late (by decide) ?_
      (try simp only [Act.put, List.getElem_toArray, List.getElem_cons_succ, List.getElem_cons_zero, List.setIfInBounds_toArray, List.set_cons_zero, List.set_cons_succ])
      refine wpI_takeP (i := 12) (v := ?_) rfl (by kernel_rfl) (by kernel_rfl) (by kernel_rfl) (by first | exact fun _ _ _ h => h | exact fun _ _ _ h => HQ0.out _ _ _ _ _ h) (Or.inl ⟨by rfl, ?hy⟩) ?_
      case hy => (intro W; go_simp; (try with_reducible rfl))
      simp only [Act.put, List.getElem_toArray, List.getElem_cons_succ, List.getElem_cons_zero, List.setIfInBounds_toArray, List.set_cons_zero, List.set_cons_succ]
      refine wpI_takeP (i := 13) (v := ?_) rfl (by kernel_rfl) (by kernel_rfl) (by kernel_rfl) (by first | exact fun _ _ _ h => h | exact fun _ _ _ h => HQ0.out _ _ _ _ _ h) (Or.inl ⟨by rfl, ?hy⟩) ?_
      case hy => (intro W; go_simp; (try with_reducible rfl))
      simp only [Act.put, List.getElem_toArray, List.getElem_cons_succ, List.getElem_cons_zero, List.setIfInBounds_toArray, List.set_cons_zero, List.set_cons_succ]
      refine wpI_done (by kernel_rfl) ?_ _
      (try simp only [Act.put, List.getElem_toArray, List.getElem_cons_succ, List.getElem_cons_zero, List.setIfInBounds_toArray, List.set_cons_zero, List.set_cons_succ])
      (go_wp2_with fail; go_meet; case rel => exact ⟨gx, r, is, es', rfl, rfl, rfl, hM, HR, HIS, HW1, HW2⟩)
    · (try simp only [Act.put, List.getElem_toArray, List.getElem_cons_succ, List.getElem_cons_zero, List.setIfInBounds_toArray, List.set_cons_zero, List.set_cons_succ])
      go_wp2_with (first
          | go_skip
          | ((with_reducible refine at_alloc_ (T := 40) ?_); refine wpList_alloc_mem rfl 40 rfl _ zv_Packet _ rfl hM ?_; clear hM; intro gx W hM; replace hM := fg_last hM)
          | ((with_reducible refine at_store_ (T := 40) ?_); refine wpList_store_mem rfl 40 _ _ rfl 0 _ _ _ _ hM rfl rfl rfl rfl sz_Packet rfl ?_; clear hM; intro W hM; simp only [List.set_cons_zero] at hM)
          | (go_at_call 36; ((first | (refine (HIN.out _ (fg_hand [_, _, _, _, _, _, _, _, _, _] hM)).mono ?_; rintro e W ⟨r, is, es', rfl, hM6, HR, HIS, HW1, HW2⟩; replace hM := fg_back [_, _, _, _, _, _, _, _, _, _] hM hM6) | (refine (HIN.out _ (fg_hand [_, _, _, _, _, _, _, _, _, _, _] hM)).mono ?_; rintro e W ⟨r, is, es', rfl, hM6, HR, HIS, HW1, HW2⟩; replace hM := fg_back [_, _, _, _, _, _, _, _, _, _, _] hM hM6)); clear hM6; simp only [List.cons_append, List.nil_append] at hM; dsimp only))
          | ((with_reducible refine at_box_ ?_); refine wpList_box_mem rfl _ _ rfl _ rfl hM ?_; clear hM; intro gb W hM; first | (simp only [List.nil_append] at hM) | (simp only [List.cons_append, List.nil_append] at hM)))
      refine contI_normal ⟨fun r hr => (by first | exact hM.get 4 hr | exact hM.get 5 hr), fun r hr => (by first | exact hM.get 5 hr | exact hM.get 6 hr), fun r hr => (by first | exact hM.get 8 hr | exact hM.get 9 hr), trivial⟩ ?_
      (try simp only [Act.put, List.getElem_toArray, List.getElem_cons_succ, List.getElem_cons_zero, List.setIfInBounds_toArray, List.set_cons_zero, List.set_cons_succ])
      refine wpI_one (i := 5) rfl (by kernel_rfl) ?_
      (try simp only [Act.put, List.getElem_toArray, List.getElem_cons_succ, List.getElem_cons_zero, List.setIfInBounds_toArray, List.set_cons_zero, List.set_cons_succ])
      go_wp2_with (first
          | go_skip
          | ((with_reducible refine at_alloc_ (T := 40) ?_); refine wpList_alloc_mem rfl 40 rfl _ zv_Packet _ rfl hM ?_; clear hM; intro gx W hM; replace hM := fg_last hM)
          | ((with_reducible refine at_store_ (T := 40) ?_); refine wpList_store_mem rfl 40 _ _ rfl 0 _ _ _ _ hM rfl rfl rfl rfl sz_Packet rfl ?_; clear hM; intro W hM; simp only [List.set_cons_zero] at hM)
          | (go_at_call 36; ((first | (refine (HIN.out _ (fg_hand [_, _, _, _, _, _, _, _, _, _] hM)).mono ?_; rintro e W ⟨r, is, es', rfl, hM6, HR, HIS, HW1, HW2⟩; replace hM := fg_back [_, _, _, _, _, _, _, _, _, _] hM hM6) | (refine (HIN.out _ (fg_hand [_, _, _, _, _, _, _, _, _, _, _] hM)).mono ?_; rintro e W ⟨r, is, es', rfl, hM6, HR, HIS, HW1, HW2⟩; replace hM := fg_back [_, _, _, _, _, _, _, _, _, _, _] hM hM6)); clear hM6; simp only [List.cons_append, List.nil_append] at hM; dsimp only))
          | ((with_reducible refine at_box_ ?_); refine wpList_box_mem rfl _ _ rfl _ rfl hM ?_; clear hM; intro gb W hM; first | (simp only [List.nil_append] at hM) | (simp only [List.cons_append, List.nil_append] at hM)))
      refine contI_normal ⟨fun r hr => (by first | exact hM.get 4 hr | exact hM.get 5 hr), fun r hr => (by first | exact hM.get 5 hr | exact hM.get 6 hr), fun r hr => (by first | exact hM.get 8 hr | exact hM.get 9 hr), trivial⟩ ?_
      (try simp only [Act.put, List.getElem_toArray, List.getElem_cons_succ, List.getElem_cons_zero, List.setIfInBounds_toArray, List.set_cons_zero, List.set_cons_succ])
      refine wpI_takeP (i := 6) (v := ?_) rfl (by kernel_rfl) (by kernel_rfl) (by kernel_rfl) (by first | exact fun _ _ _ h => h | exact fun _ _ _ h => HQ0.out _ _ _ _ _ h) (Or.inl ⟨by rfl, ?hy⟩) ?_
      case hy => (intro W; go_simp; (try with_reducible rfl))
      simp only [Act.put, List.getElem_toArray, List.getElem_cons_succ, List.getElem_cons_zero, List.setIfInBounds_toArray, List.set_cons_zero, List.set_cons_succ]
      refine wpI_takeP (i := 7) (v := ?_) rfl (by kernel_rfl) (by kernel_rfl) (by kernel_rfl) (by first | exact fun _ _ _ h => h | exact fun _ _ _ h => HQ0.out _ _ _ _ _ h) (Or.inl ⟨by rfl, ?hy⟩) ?_
      case hy => (intro W; go_simp; (try with_reducible rfl))
      simp only [Act.put, List.getElem_toArray, List.getElem_cons_succ, List.getElem_cons_zero, List.setIfInBounds_toArray, List.set_cons_zero, List.set_cons_succ]
      refine wpI_takeP (i := 8) (v := ?_) rfl (by kernel_rfl) (by kernel_rfl) (by kernel_rfl) (by first | exact fun _ _ _ h => h | exact fun _ _ _ h => HQ0.out _ _ _ _ _ h) (Or.inl ⟨by rfl, ?hy⟩) ?_
      case hy => (intro W; go_simp; (try with_reducible rfl))
      simp only [Act.put, List.getElem_toArray, List.getElem_cons_succ, List.getElem_cons_zero, List.setIfInBounds_toArray, List.set_cons_zero, List.set_cons_succ]
      refine wpI_takeP (i := 9) (v := ?_) rfl (by kernel_rfl) (by kernel_rfl) (by kernel_rfl) (by first | exact fun _ _ _ h => h | exact fun _ _ _ h => HQ0.out _ _ _ _ _ h) (Or.inl ⟨by rfl, ?hy⟩) ?_
      case hy => (intro W; go_simp; (try with_reducible rfl))
      simp only [Act.put, List.getElem_toArray, List.getElem_cons_succ, List.getElem_cons_zero, List.setIfInBounds_toArray, List.set_cons_zero, List.set_cons_succ]
      refine wpI_one (i := 11) rfl (by kernel_rfl) ?_
      (try simp only [Act.put, List.getElem_toArray, List.getElem_cons_succ, List.getElem_cons_zero, List.setIfInBounds_toArray, List.set_cons_zero, List.set_cons_succ])
      go_wp2_with (first
          | go_skip
          | ((with_reducible refine at_alloc_ (T := 40) ?_); refine wpList_alloc_mem rfl 40 rfl _ zv_Packet _ rfl hM ?_; clear hM; intro gx W hM; replace hM := fg_last hM)
          | ((with_reducible refine at_store_ (T := 40) ?_); refine wpList_store_mem rfl 40 _ _ rfl 0 _ _ _ _ hM rfl rfl rfl rfl sz_Packet rfl ?_; clear hM; intro W hM; simp only [List.set_cons_zero] at hM)
          | (go_at_call 36; ((first | (refine (HIN.out _ (fg_hand [_, _, _, _, _, _, _, _, _, _] hM)).mono ?_; rintro e W ⟨r, is, es', rfl, hM6, HR, HIS, HW1, HW2⟩; replace hM := fg_back [_, _, _, _, _, _, _, _, _, _] hM hM6) | (refine (HIN.out _ (fg_hand [_, _, _, _, _, _, _, _, _, _, _] hM)).mono ?_; rintro e W ⟨r, is, es', rfl, hM6, HR, HIS, HW1, HW2⟩; replace hM := fg_back [_, _, _, _, _, _, _, _, _, _, _] hM hM6)); clear hM6; simp only [List.cons_append, List.nil_append] at hM; dsimp only))
          | ((with_reducible refine at_box_ ?_); refine wpList_box_mem rfl _ _ rfl _ rfl hM ?_; clear hM; intro gb W hM; first | (simp only [List.nil_append] at hM) | (simp only [List.cons_append, List.nil_append] at hM)))
      refine contI_late (by decide) ?_
      (try simp only [Act.put, List.getElem_toArray, List.getElem_cons_succ, List.getElem_cons_zero, List.setIfInBounds_toArray, List.set_cons_zero, List.set_cons_succ])
      refine wpI_takeP (i := 12) (v := ?_) rfl (by kernel_rfl) (by kernel_rfl) (by kernel_rfl) (by first | exact fun _ _ _ h => h | exact fun _ _ _ h => HQ0.out _ _ _ _ _ h) (Or.inl ⟨by rfl, ?hy⟩) ?_
      case hy => (intro W; go_simp; (try with_reducible rfl))
      simp only [Act.put, List.getElem_toArray, List.getElem_cons_succ, List.getElem_cons_zero, List.setIfInBounds_toArray, List.set_cons_zero, List.set_cons_succ]
      refine wpI_takeP (i := 13) (v := ?_) rfl (by kernel_rfl) (by kernel_rfl) (by kernel_rfl) (by first | exact fun _ _ _ h => h | exact fun _ _ _ h => HQ0.out _ _ _ _ _ h) (Or.inl ⟨by rfl, ?hy⟩) ?_
      case hy => (intro W; go_simp; (try with_reducible rfl))
      simp only [Act.put, List.getElem_toArray, List.getElem_cons_succ, List.getElem_cons_zero, List.setIfInBounds_toArray, List.set_cons_zero, List.set_cons_succ]
      refine wpI_done (by kernel_rfl) ?_ _
      (try simp only [Act.put, List.getElem_toArray, List.getElem_cons_succ, List.getElem_cons_zero, List.setIfInBounds_toArray, List.set_cons_zero, List.set_cons_succ])
      (go_wp2_with fail; go_meet; case rel => exact ⟨gx, r, is, es', rfl, rfl, rfl, hM, HR, HIS, HW1, HW2⟩)
  case rest =>
    obtain ⟨gx, r, is, es', rfl, rfl, rfl, hM2, HR, HIS, HW1, HW2⟩ := hcut
    clear hM HIN HW8
    have hM := hM2
    clear hM2
    obtain ⟨kv, hkv⟩ : ∃ z : Int, z = if T k = true then 1 else 0 := ⟨_, rfl⟩
    rw [← hkv] at HKN
    have HKV := Lib.hid hkv
    clear hkv
    go_upto_if 37 with (first | go_skip | ((with_reducible refine at_lookup_ ?_); refine wpList_lookup_m (by rfl) _ _ false rfl mapTy_ii (.int .i64 0) (fun _ => by kernel_rfl) 10 hM rfl rfl ((k : Nat) : Int) rfl (HKO.out _ hkN) ?_; simp only [Bool.false_eq_true, if_false, HKN.out]) | ((with_reducible refine at_load_ ?_); refine at_wanted_ (by rfl) ?_; refine wpList_loadf_mem (by go_simp) _ _ rfl (by kernel_rfl) 7 _ _ _ _ _ hM rfl rfl rfl ?_))
    go_cut [] (fun W => MemX E w0 W (atR gx 40 (pkC r) :: atR gw 40 (pkC p) :: atR gp 40 (pkC p) :: atR ga 81 [.slice Aa la ca] :: atR gq 40 (pkC q) :: atR gt 75 [.pointer (some ⟨g, 0, none⟩)] :: atR gall 81 [.slice (some ⟨g7, off7, none⟩) N c7] :: atR gs 86 [.map (some gsm)] :: atR gl 85 [.int .i64 C1, .int .i64 L1] :: rowR 9 pkC (.slice (some ⟨g7, off7, none⟩) N c7) (a ++ b) :: mapR Try.prog 3 fInt fInt gsm (mrk m T k) :: fgL g gm es'))
    case first =>
      cases hT : T k with
      | true =>
        have hk1 : kv = 1 := by rw [HKV.out, hT]; rfl
        subst hk1
        have hcc : C1 = L0 := by rw [HC1.out, addS_same hT, HL0.out]
        have hmm : mrk m T k = m := if_pos hT
        have HK := Lib.hid (show MemX E w0 wc (atR gx 40 (pkC r) :: atR gw 40 (pkC p) :: atR gp 40 (pkC p) :: atR ga 81 [.slice Aa la ca] :: atR gq 40 (pkC q) :: atR gt 75 [.pointer (some ⟨g, 0, none⟩)] :: atR gall 81 [.slice (some ⟨g7, off7, none⟩) N c7] :: atR gs 86 [.map (some gsm)] :: atR gl 85 [.int .i64 C1, .int .i64 L1] :: rowR 9 pkC (.slice (some ⟨g7, off7, none⟩) N c7) (a ++ b) :: mapR Try.prog 3 fInt fInt gsm (mrk m T k) :: fgL g gm es') from by rw [hcc, hmm]; exact hM)
        clear hT hcc hmm
        go_wp2_with fail
        go_meet
        case rel => exact HK.out
      | false =>
        have hk1 : kv = 0 := by rw [HKV.out, hT]; rfl
        subst hk1
        have hcc : C1 + 1 = L0 := by rw [HL0.out]; exact HADD.out hT
        have hmm : mrk m T k = mPut m (k : Nat) 1 := if_neg (by rw [hT]; decide)
        have HMM := Lib.hid hmm
        clear hT hmm
        go_upto_region 10 with (first
          | go_skip
          | ((with_reducible refine at_load_ ?_); refine at_wanted_ (by rfl) ?_; first | (refine wpList_loadf_mem (by go_simp) _ _ rfl (by kernel_rfl) 7 _ _ _ _ _ hM rfl rfl rfl ?_) | (refine wpList_loadf_mem (by go_simp) _ _ rfl (by kernel_rfl) 8 _ _ _ _ _ hM rfl rfl rfl ?_))
          | ((with_reducible refine at_store_ ?_); refine wpList_store1_mem rfl _ _ _ rfl 8 _ _ _ _ _ hM rfl rfl (by first | ((conv => lhs; whnf); done) | ((conv => lhs; whnf); rfl)) (by rfl) (by rfl) (by kernel_rfl) rfl ?_; clear hM; intro W hM; simp only [List.set_cons_succ, List.set_cons_zero] at hM)
          | ((with_reducible refine at_mapUpdate_ ?_); refine wpList_mapUpdate_m rfl _ _ _ rfl mapTy_ii 10 hM rfl rfl ((k : Nat) : Int) rfl (HKO.out _ hkN) 1 rfl ?_; clear hM; intro W hM; simp only [List.set_cons_succ, List.set_cons_zero] at hM))
        have hee : (L0 : Int) - 1 = (C1 : Int) := by omega
        simp only [hee] at hM
        go_wp2_with fail
        go_meet
        case rel => rw [HMM.out]; exact hM
    case rest =>
      clear hM
      have hM := hcut
      clear hcut
      have q2 : ((C1 : Int) == 0) = is := by
        rw [HIS.out]
        by_cases h0 : C1 = 0
        · rw [h0]; rfl
        · rw [decide_eq_false h0]; simpa using h0
      have q3 : (is != ((C1 : Int) == 0)) = false := by rw [q2]; simp
      cases is with
      | false =>
        have hr : r = zPk := HR.out
        subst hr
        go_wp2_with (first
          | go_skip
          | ((with_reducible refine at_load_ (T := 40) ?_); refine wpList_loadg_mem (by go_simp) 40 _ rfl 0 _ _ _ hM rfl rfl _ Try.underlying40 rfl sz_Packet ?_)
          | ((with_reducible refine at_load_ ?_); refine at_wanted_ (by rfl) ?_; refine wpList_loadf_mem (by go_simp) _ _ rfl (by kernel_rfl) 8 _ _ _ _ _ hM rfl rfl rfl ?_)
          | ((with_reducible refine at_eq_ (T := 40) ?_); refine wpList_eq_mem (by go_simp) 40 _ _ _ rfl _ _ rfl rfl eg_Packet _ (eqT_Packet zPk) ?_))
        go_ret
        exact ⟨rfl, _, _, _, _, _, (show MemX E w0 _ ([_, _] ++ (atR gp 40 (pkC p) :: atR ga 81 [.slice Aa la ca] :: atR gq 40 (pkC q) :: atR gt 75 [.pointer (some ⟨g, 0, none⟩)] :: atR gall 81 [.slice (some ⟨g7, off7, none⟩) N c7] :: atR gs 86 [.map (some gsm)] :: atR gl 85 [.int .i64 C1, .int .i64 L1] :: rowR 9 pkC (.slice (some ⟨g7, off7, none⟩) N c7) (a ++ b) :: mapR Try.prog 3 fInt fInt gsm (mrk m T k) :: fgL g gm es')) from hM).drop_, Lib.hid (HW1.out (by simp)), Lib.hid (by exact HC1.out), Lib.hid (by rw [HL1.out, cnt_hi_addlo hk])⟩
      | true =>
        have hr : r = p := HR.out
        rw [hr] at hM
        clear hr HR
        have HW3 := Lib.hid (HW2.out (by simp))
        have HMO := Lib.hid (show mOk (mrk m T k) from by unfold mrk; split <;> first | exact HMK.out | exact mOk_put HMK.out _ _)
        have HSM := Lib.hid (show ∀ i : Nat, i < la + lb → (mGet (mrk m T k) (i : Int)).getD 0 = if addS T k i = true then 1 else 0 from mrk_at HMK.out (by rw [← HLA.out, ← HLB.out]; exact HSN.out) (by rw [← HNN.out]; exact hkN))
        clear HW1 HW2 HIS HMK HSN HKN HKV
        go_upto_region 15 with (first
          | go_skip
          | ((with_reducible refine at_load_ ?_); refine at_wanted_ (by rfl) ?_; refine wpList_loadf_mem (by go_simp) _ _ rfl (by kernel_rfl) 8 _ _ _ _ _ hM rfl rfl rfl ?_)
          | ((with_reducible refine at_store_ ?_); refine wpList_store1_mem rfl _ _ _ rfl 8 _ _ _ _ _ hM rfl rfl (by first | ((conv => lhs; whnf); done) | ((conv => lhs; whnf); rfl)) (by rfl) (by rfl) (by kernel_rfl) rfl ?_; clear hM; intro W hM; simp only [List.set_cons_succ, List.set_cons_zero] at hM))
        clear q2 q3
        go_wp2_with (first
          | go_skip
          | ((with_reducible refine at_load_ ?_); refine at_wanted_ (by rfl) ?_; refine wpList_loadf_mem (by go_simp) _ _ rfl (by kernel_rfl) 6 _ _ _ _ _ hM rfl rfl rfl ?_))
        go_loopg [60] N (fun gh i wr => ∃ (j : Nat) (m' : List (Int × Int)), gh = N - j ∧ j ≤ N ∧ i = .int .i64 j ∧ MemX E w0 wr (atR gx 40 (pkC p) :: atR gw 40 (pkC p) :: atR gp 40 (pkC p) :: atR ga 81 [.slice Aa la ca] :: atR gq 40 (pkC q) :: atR gt 75 [.pointer (some ⟨g, 0, none⟩)] :: atR gall 81 [.slice (some ⟨g7, off7, none⟩) N c7] :: atR gs 86 [.map (some gsm)] :: atR gl 85 [.int .i64 (sdN la false j : Nat), .int .i64 L1] :: rowR 9 pkC (.slice (some ⟨g7, off7, none⟩) N c7) (a ++ b) :: mapR Try.prog 3 fInt fInt gsm m' :: fgL g gm es') ∧ Hid (mOk m') ∧ Hid (∀ i : Nat, i < la + lb → (mGet m' (i : Int)).getD 0 = if offS la false (addS T k) j i = true then 1 else 0))
        case atStart => exact ⟨0, mrk m T k, by omega, by omega, rfl, by rw [show sdN la false 0 = 0 from Nat.zero_min la]; exact hM, HMO, by rw [offS_zero]; exact HSM⟩
        case round =>
          clear hM HMO HSM
          obtain ⟨j, m', hgj, hj, rfl, hM, HMO, HSM⟩ := hrel
          have HGJ := Lib.hid hgj
          clear hgj
          by_cases hlt : j < N
          · obtain ⟨S1, hS1⟩ : ∃ z : Nat, z = sdN la false j := ⟨_, rfl⟩
            rw [← hS1] at hM
            have hS1b : S1 ≤ 8002 := by rw [hS1]; unfold sdN; split <;> omega
            have HS1 := Lib.hid hS1
            clear hS1
            by_cases hs : decide (la ≤ j) = false
            · have r1 : decide ((la : Int) ≤ (j : Int)) = false := by rw [← hs]; exact decide_eq_decide.2 (by omega)
              have HSS := Lib.hid hs
              go_upto_region 21 with (first
                | go_skip
                | ((with_reducible refine at_load_ ?_); refine at_wanted_ (by rfl) ?_; first | (refine wpList_loadf_mem (by go_simp) _ _ rfl (by kernel_rfl) 3 _ _ _ _ _ hM rfl rfl rfl ?_) | (refine wpList_loadf_mem (by go_simp) _ _ rfl (by kernel_rfl) 7 _ _ _ _ _ hM rfl rfl rfl ?_) | (refine wpList_loadf_mem (by go_simp) _ _ rfl (by kernel_rfl) 8 _ _ _ _ _ hM rfl rfl rfl ?_))
                | ((with_reducible refine at_store_ ?_); refine wpList_store1_mem rfl _ _ _ rfl 8 _ _ _ _ _ hM rfl rfl (by first | ((conv => lhs; whnf); done) | ((conv => lhs; whnf); rfl)) (by rfl) (by rfl) (by kernel_rfl) rfl ?_; clear hM; intro W hM; simp only [List.set_cons_succ, List.set_cons_zero] at hM)
                | ((with_reducible refine at_mapUpdate_ ?_); refine wpList_mapUpdate_m rfl _ _ _ rfl mapTy_ii 10 hM rfl rfl ((j : Nat) : Int) rfl (HKO.out _ hlt) 0 rfl ?_; clear hM; intro W hM; simp only [List.set_cons_succ, List.set_cons_zero] at hM))
              have he : (S1 : Int) + 1 = ((sdN la false (j + 1) : Nat) : Int) := by rw [sdN_put HSS.out, ← HS1.out]; omega
              simp only [he] at hM
              have HMO2 := Lib.hid (mOk_put HMO.out (j : Int) 0)
              have HSM2 := Lib.hid (offS_put HMO.out HSM.out HSS.out)
              clear he
              go_wp2_with fail
              go_roundg (N - (j + 1))
              case measure => have := HGJ.out; omega
              case rel => exact ⟨j + 1, _, rfl, by omega, by go_num, hM, HMO2, HSM2⟩
            · have r1 : decide ((la : Int) ≤ (j : Int)) = !false := by
                have h1 : decide (la ≤ j) = !false := by cases hd : decide (la ≤ j) <;> simp_all
                rw [← h1]; exact decide_eq_decide.2 (by omega)
              have r2 : decide (la ≤ j) = !false := by cases hd : decide (la ≤ j) <;> simp_all
              simp only [Bool.not_true, Bool.not_false] at r1 r2
              have HSS := Lib.hid hs
              clear hs
              go_upto_region 21 with (first
                | go_skip
                | ((with_reducible refine at_load_ ?_); refine at_wanted_ (by rfl) ?_; first | (refine wpList_loadf_mem (by go_simp) _ _ rfl (by kernel_rfl) 3 _ _ _ _ _ hM rfl rfl rfl ?_) | (refine wpList_loadf_mem (by go_simp) _ _ rfl (by kernel_rfl) 7 _ _ _ _ _ hM rfl rfl rfl ?_)))
              rw [HS1.out, ← sdN_skip HSS.out] at hM
              have HSM2 := Lib.hid (show ∀ i : Nat, i < la + lb → (mGet m' (i : Int)).getD 0 = if offS la false (addS T k) (j + 1) i = true then 1 else 0 from by rw [offS_skip HSS.out]; exact HSM.out)
              go_wp2_with fail
              go_roundg (N - (j + 1))
              case measure => have := HGJ.out; omega
              case rel => exact ⟨j + 1, _, rfl, by omega, by go_num, hM, HMO, HSM2⟩
          · obtain rfl : N = j := by omega
            go_wp2_with (first
              | go_skip
              | ((with_reducible refine at_load_ (T := 40) ?_); first | (refine wpList_loadg_mem (by go_simp) 40 _ rfl 0 _ _ _ hM rfl rfl _ Try.underlying40 rfl sz_Packet ?_) | (refine wpList_loadg_mem (by go_simp) 40 _ rfl 1 _ _ _ hM rfl rfl _ Try.underlying40 rfl sz_Packet ?_))
              | ((with_reducible refine at_eq_ (T := 40) ?_); refine wpList_eq_mem (by go_simp) 40 _ _ _ rfl _ _ rfl rfl eg_Packet _ (eqT_Packet p) ?_))
            go_ret
            rw [HNN.out] at HSM
            have hM2 := (show MemX E w0 _ ([_, _] ++ (atR gp 40 (pkC p) :: atR ga 81 [.slice Aa la ca] :: atR gq 40 (pkC q) :: atR gt 75 [.pointer (some ⟨g, 0, none⟩)] :: atR gall 81 [.slice (some ⟨g7, off7, none⟩) N c7] :: atR gs 86 [.map (some gsm)] :: atR gl 85 [.int .i64 (sdN la false N : Nat), .int .i64 L1] :: rowR 9 pkC (.slice (some ⟨g7, off7, none⟩) N c7) (a ++ b) :: mapR Try.prog 3 fInt fInt gsm m' :: fgL g gm es')) from hM).drop_
            have hsd : sdN la false N = sdN la false (la + lb) := by rw [HNN.out]
            rw [hsd] at hM2
            exact ⟨rfl, _, _, _, _, _, hM2, Lib.hid (HW3.out _ HSM.out), Lib.hid (by rw [cnt_lo_off (Nat.le_add_right _ _)]; exact (Nat.min_eq_right (Nat.le_add_right _ _))), Lib.hid (by rw [cnt_hi_keep, HL1.out, cnt_hi_addlo hk])⟩

set_option maxRecDepth 100000 in
set_option maxHeartbeats 8000000 in
theorem fw_hi (gp ga gq gt gall gs gl gsm g gm g7 off7 c7 la lb N : Nat) (Aa : Option Addr) (ca : Nat) (p q : Pk) (a b : List Pk) (T : Nat → Bool) (m : List (Int × Int)) (es : List FE) (L0 L1 k K : Nat) (x : Pk) {E : Nat → Prop} {w0 : World} (w : World)
    (hM0 : MemX E w0 w (atR gp 40 (pkC p) :: atR ga 81 [.slice Aa la ca] :: atR gq 40 (pkC q) :: atR gt 75 [.pointer (some ⟨g, 0, none⟩)] :: atR gall 81 [.slice (some ⟨g7, off7, none⟩) N c7] :: atR gs 86 [.map (some gsm)] :: atR gl 85 [.int .i64 L0, .int .i64 L1] :: rowR 9 pkC (.slice (some ⟨g7, off7, none⟩) N c7) (a ++ b) :: mapR Try.prog 3 fInt fInt gsm m :: fgL g gm es))
    (hla : a.length = la) (hlb : b.length = lb) (hN : N = la + lb) (hN2 : N ≤ 8002) (hp : FPk p a) (hq : FPk q b) (hne : keyP p ≠ keyP q) (hI : WInv p q a b T m es) (hm : mOk m) (hk : k < lb) (hK : K = la + k) (hL0 : L0 = cntF T la) (hL1 : L1 = cntF (fun j => T (la + j)) lb) (hx : b[k]? = some x) (hxx : (a ++ b)[K]? = some x) :
    Calls Try.prog 40 #[.int .i64 (K : Nat), .pointer (some ⟨gp, 0, none⟩), .pointer (some ⟨ga, 0, none⟩), .pointer (some ⟨gq, 0, none⟩), .pointer (some ⟨gt, 0, none⟩), .pointer (some ⟨gall, 0, none⟩), .pointer (some ⟨gs, 0, none⟩), .pointer (some ⟨gl, 0, none⟩)] w fun e w' =>
      e = .returned (.bool true) ∧ ∃ T' m' es' L0' L1', MemX E w0 w' (atR gp 40 (pkC p) :: atR ga 81 [.slice Aa la ca] :: atR gq 40 (pkC q) :: atR gt 75 [.pointer (some ⟨g, 0, none⟩)] :: atR gall 81 [.slice (some ⟨g7, off7, none⟩) N c7] :: atR gs 86 [.map (some gsm)] :: atR gl 85 [.int .i64 (L0' : Nat), .int .i64 (L1' : Nat)] :: rowR 9 pkC (.slice (some ⟨g7, off7, none⟩) N c7) (a ++ b) :: mapR Try.prog 3 fInt fInt gsm m' :: fgL g gm es') ∧ Hid (WInv p q a b T' m' es') ∧ Hid (L0' = cntF T' la) ∧ Hid (L1' = cntF (fun j => T' (la + j)) lb) := by
  have hM := hM0
  clear hM0
  have HW8 := Lib.hid (fun (W : World) (h : (rowR 9 pkC (.slice (some ⟨g7, off7, none⟩) N c7) (a ++ b)).P W) => (row_range pkC_len h K x hxx : W.rangeAt g7 (off7 + K * 9) (pkC x)))
  have HIN := Lib.hid (fun (W : World) (h : MemX (blkE (fgL g gm es)) W W (fgL g gm es)) => (In_any g gm es x W h hI.fi (hq.lim hx)).mono (fun e w' h2 => (by
    obtain ⟨r, is, er, es', rfl, h3, h4, h5⟩ := h2
    obtain ⟨rfl, e2, e3, e4, e5⟩ := hI.hi hq hne hm hx h5 h4
    simp only [hla, hlb] at e2 e4 e5
    rw [hK]
    exact ⟨r, is, es', rfl, h3, Lib.hid e3, Lib.hid e2, Lib.hid e4, Lib.hid e5⟩ : ∃ r is es', e = .returned (.tuple #[.agg (pkC r).toArray, .bool is, .int .i64 0]) ∧ MemX (blkE (fgL g gm es)) W w' (fgL g gm es') ∧ Hid (r = if is = true then q else zPk) ∧ Hid (is = decide ((cntF (addS (fun j => T (la + j)) k) lb) = 0)) ∧ Hid (is = false → WInv p q a b (addS T K) (mrk m T K) es') ∧ Hid (is = true → ∀ m', (∀ i : Nat, i < la + lb → (mGet m' (i : Int)).getD 0 = if offS la true (addS T K) (la + lb) i = true then 1 else 0) → WInv p q a b (offS la true (addS T K) (la + lb)) m' es'))))
  have HSN := Lib.hid hI.sn
  have HKN := Lib.hid (getD_elim (hI.sn K (by omega)))
  have HMK := Lib.hid hm
  have HL0 := Lib.hid hL0
  have HL1 := Lib.hid hL1
  have HP := Lib.hid hp
  have HQ := Lib.hid hq
  have HLA := Lib.hid hla
  have HLB := Lib.hid hlb
  have HKO := Lib.hid (fun (j : Nat) (h : j < N) => keyOk_int (k := (j : Int)) (by omega))
  have HADD := Lib.hid (fun (h : T K = false) => cntF_add (S := fun j => T (la + j)) (i := k) hk (by rw [hK] at h; exact h))
  have hc1 : (cntF (addS (fun j => T (la + j)) k) lb) ≤ lb := cntF_le _ _
  obtain ⟨C1, hC1⟩ : ∃ z : Nat, z = (cntF (addS (fun j => T (la + j)) k) lb) := ⟨_, rfl⟩
  rw [← hC1] at HADD HIN hc1
  have HC1 := Lib.hid hC1
  have hown : L1 ≤ lb := by rw [hL1]; exact cntF_le _ _
  have hoth : L0 ≤ la := by rw [hL0]; exact cntF_le _ _
  have hkN : K < N := by omega
  have q1 : decide ((la : Int) ≤ K) = true := by simp; omega
  have q1b : decide (la ≤ K) = true := by simp; omega
  have HNN := Lib.hid hN
  have hlaN : la ≤ 8002 := by omega
  have hlbN : lb ≤ 8002 := by omega
  have HKK := Lib.hid hK
  clear hI hm hL0 hL1 hp hq hla hlb hxx hx hne hC1 hN hK
  go_enter Try.func40, Try.ntmps40
  go_upto_region 1 with (fail)
  refine wp_region_M [0] [3] hM (by kernel_rfl) ?_
  clear hM
  intro wo hM
  refine wpI_take (i := 0) (v := .agg (pkC p).toArray) rfl (by kernel_rfl) (by kernel_rfl) (by kernel_rfl) (by kernel_rfl) (by first | exact fun _ _ _ h => h | exact fun _ _ _ h => HQ0.out _ _ _ _ _ h) ⟨fun r hr => (by first | exact hM.get 0 hr | exact hM.get 1 hr), trivial⟩ (Or.inl ⟨by rfl, ?hy⟩) ?_
  case hy => (rintro W ⟨i0, -⟩; have c0 := (show At W _ _ _ from i0 _ rfl).cell; exact exec_loadw _ _ rfl gp 0 rfl (pkC p) _ Try.underlying40 rfl sz_Packet (range_cells c0))
  simp only [Act.put, List.getElem_toArray, List.getElem_cons_succ, List.getElem_cons_zero, List.setIfInBounds_toArray, List.set_cons_zero, List.set_cons_succ]
  refine wpI_one (i := 1) rfl (by kernel_rfl) ?_
  (try simp only [Act.put, List.getElem_toArray, List.getElem_cons_succ, List.getElem_cons_zero, List.setIfInBounds_toArray, List.set_cons_zero, List.set_cons_succ])
  go_wp2_with (first
      | go_skip
      | ((with_reducible refine at_alloc_ (T := 40) ?_); refine wpList_alloc_mem rfl 40 rfl _ zv_Packet _ rfl hM ?_; clear hM; intro gw W hM; replace hM := fg_last hM)
      | ((with_reducible refine at_store_ (T := 40) ?_); refine wpList_store_mem rfl 40 _ _ rfl 0 _ _ _ _ hM rfl rfl rfl rfl sz_Packet rfl ?_; clear hM; intro W hM; simp only [List.set_cons_zero] at hM)
      | ((with_reducible refine at_box_ ?_); refine wpList_box_mem rfl _ _ rfl _ rfl hM ?_; clear hM; intro gb W hM; first | (simp only [List.nil_append] at hM) | (simp only [List.cons_append, List.nil_append] at hM)))
  refine contI_normal ⟨fun r hr => (by first | exact hM.get 0 hr | exact hM.get 1 hr), trivial⟩ ?_
  (try simp only [Act.put, List.getElem_toArray, List.getElem_cons_succ, List.getElem_cons_zero, List.setIfInBounds_toArray, List.set_cons_zero, List.set_cons_succ])
  refine wpI_takeP (i := 2) (v := ?_) rfl (by kernel_rfl) (by kernel_rfl) (by kernel_rfl) (by first | exact fun _ _ _ h => h | exact fun _ _ _ h => HQ0.out _ _ _ _ _ h) (Or.inl ⟨by rfl, ?hy⟩) ?_
  case hy => (intro W; go_simp; (try with_reducible rfl))
  simp only [Act.put, List.getElem_toArray, List.getElem_cons_succ, List.getElem_cons_zero, List.setIfInBounds_toArray, List.set_cons_zero, List.set_cons_succ]
  refine wpI_one (i := 3) rfl (by kernel_rfl) ?_
  (try simp only [Act.put, List.getElem_toArray, List.getElem_cons_succ, List.getElem_cons_zero, List.setIfInBounds_toArray, List.set_cons_zero, List.set_cons_succ])
  go_wp2_with (first
      | go_skip
      | ((with_reducible refine at_alloc_ (T := 40) ?_); refine wpList_alloc_mem rfl 40 rfl _ zv_Packet _ rfl hM ?_; clear hM; intro gw W hM; replace hM := fg_last hM)
      | ((with_reducible refine at_store_ (T := 40) ?_); refine wpList_store_mem rfl 40 _ _ rfl 0 _ _ _ _ hM rfl rfl rfl rfl sz_Packet rfl ?_; clear hM; intro W hM; simp only [List.set_cons_zero] at hM)
      | ((with_reducible refine at_box_ ?_); refine wpList_box_mem rfl _ _ rfl _ rfl hM ?_; clear hM; intro gb W hM; first | (simp only [List.nil_append] at hM) | (simp only [List.cons_append, List.nil_append] at hM)))
  refine contI_late (by decide) ?_
  (try simp only [Act.put, List.getElem_toArray, List.getElem_cons_succ, List.getElem_cons_zero, List.setIfInBounds_toArray, List.set_cons_zero, List.set_cons_succ])
  refine wpI_done (by kernel_rfl) ?_ _
  (try simp only [Act.put, List.getElem_toArray, List.getElem_cons_succ, List.getElem_cons_zero, List.setIfInBounds_toArray, List.set_cons_zero, List.set_cons_succ])
  go_upto_region 3 with         (first
          | go_skip
          | ((with_reducible refine at_box_ ?_); refine wpList_box_mem rfl _ _ rfl _ rfl hM ?_; clear hM; intro gb W hM; first | (simp only [List.nil_append] at hM) | (simp only [List.cons_append, List.nil_append] at hM))
          | ((with_reducible refine at_load_ ?_); refine at_wanted_ (by rfl) ?_; first | (refine wpList_loadf_mem (by go_simp) _ _ rfl (by kernel_rfl) 0 _ _ _ _ _ hM rfl rfl (by first | rfl | assumption) ?_) | (refine wpList_loadf_mem (by go_simp) _ _ rfl (by kernel_rfl) 1 _ _ _ _ _ hM rfl rfl (by first | rfl | assumption) ?_) | (refine wpList_loadf_mem (by go_simp) _ _ rfl (by kernel_rfl) 2 _ _ _ _ _ hM rfl rfl (by first | rfl | assumption) ?_) | (refine wpList_loadf_mem (by go_simp) _ _ rfl (by kernel_rfl) 3 _ _ _ _ _ hM rfl rfl (by first | rfl | assumption) ?_))
          | ((with_reducible refine at_store_ ?_); first | (refine wpList_store1_mem rfl _ _ _ rfl 0 _ _ _ _ _ hM rfl rfl (by first | ((conv => lhs; whnf); done) | ((conv => lhs; whnf); rfl)) (by rfl) (by rfl) (by kernel_rfl) rfl ?_; clear hM; intro W hM; simp only [List.set_cons_succ, List.set_cons_zero] at hM) | (refine wpList_store1_mem rfl _ _ _ rfl 1 _ _ _ _ _ hM rfl rfl (by first | ((conv => lhs; whnf); done) | ((conv => lhs; whnf); rfl)) (by rfl) (by rfl) (by kernel_rfl) rfl ?_; clear hM; intro W hM; simp only [List.set_cons_succ, List.set_cons_zero] at hM) | (refine wpList_store1_mem rfl _ _ _ rfl 2 _ _ _ _ _ hM rfl rfl (by first | ((conv => lhs; whnf); done) | ((conv => lhs; whnf); rfl)) (by rfl) (by rfl) (by kernel_rfl) rfl ?_; clear hM; intro W hM; simp only [List.set_cons_succ, List.set_cons_zero] at hM) | (refine wpList_store1_mem rfl _ _ _ rfl 3 _ _ _ _ _ hM rfl rfl (by first | ((conv => lhs; whnf); done) | ((conv => lhs; whnf); rfl)) (by rfl) (by rfl) (by kernel_rfl) rfl ?_; clear hM; intro W hM; simp only [List.set_cons_succ, List.set_cons_zero] at hM)))
  refine wp_region_M [3] [2] hM (by kernel_rfl) ?_
  clear hM
  intro wo hM
  refine wpI_take (i := 0) (v := .agg (pkC q).toArray) rfl (by kernel_rfl) (by kernel_rfl) (by kernel_rfl) (by kernel_rfl) (by first | exact fun _ _ _ h => h | exact fun _ _ _ h => HQ0.out _ _ _ _ _ h) ⟨fun r hr => hM.get 3 hr, trivial⟩ (Or.inl ⟨by rfl, ?hy⟩) ?_
  case hy => (rintro W ⟨i3, -⟩; have c3 := (show At W _ _ _ from i3 _ rfl).cell; exact exec_loadw _ _ rfl gq 0 rfl (pkC q) _ Try.underlying40 rfl sz_Packet (range_cells c3))
  simp only [Act.put, List.getElem_toArray, List.getElem_cons_succ, List.getElem_cons_zero, List.setIfInBounds_toArray, List.set_cons_zero, List.set_cons_succ]
  refine wpI_takeP (i := 1) (v := ?_) rfl (by kernel_rfl) (by kernel_rfl) (by kernel_rfl) (by first | exact fun _ _ _ h => h | exact fun _ _ _ h => HQ0.out _ _ _ _ _ h) (Or.inl ⟨by rfl, ?hy⟩) ?_
  case hy => (intro W; go_simp; (try with_reducible rfl))
  simp only [Act.put, List.getElem_toArray, List.getElem_cons_succ, List.getElem_cons_zero, List.setIfInBounds_toArray, List.set_cons_zero, List.set_cons_succ]
  refine wpI_one (i := 2) rfl (by kernel_rfl) ?_
  (try simp only [Act.put, List.getElem_toArray, List.getElem_cons_succ, List.getElem_cons_zero, List.setIfInBounds_toArray, List.set_cons_zero, List.set_cons_succ])
  go_wp2_with (first
      | go_skip
      | ((with_reducible refine at_store_ (T := 40) ?_); refine wpList_store_mem rfl 40 _ _ rfl 0 _ _ _ _ hM rfl rfl rfl rfl sz_Packet rfl ?_; clear hM; intro W hM; simp only [List.set_cons_zero] at hM)
      | ((with_reducible refine at_box_ ?_); refine wpList_box_mem rfl _ _ rfl _ rfl hM ?_; clear hM; intro gb W hM; first | (simp only [List.nil_append] at hM) | (simp only [List.cons_append, List.nil_append] at hM)))
  refine contI_late (by decide) ?_
  (try simp only [Act.put, List.getElem_toArray, List.getElem_cons_succ, List.getElem_cons_zero, List.setIfInBounds_toArray, List.set_cons_zero, List.set_cons_succ])
  refine wpI_done (by kernel_rfl) ?_ _
  (try simp only [Act.put, List.getElem_toArray, List.getElem_cons_succ, List.getElem_cons_zero, List.setIfInBounds_toArray, List.set_cons_zero, List.set_cons_succ])
  go_upto_region 4 with (fail)
  go_cut [12, 13, 14] (fun v12 v13 v14 W => ∃ (gx : Nat) (r : Pk) (is : Bool) (es' : List FE), v12 = .pointer (some ⟨gx, 0, none⟩) ∧ v13 = .bool is ∧ v14 = .int .i64 0 ∧ MemX E w0 W (atR gx 40 (pkC r) :: atR gw 40 (pkC q) :: atR gp 40 (pkC p) :: atR ga 81 [.slice Aa la ca] :: atR gq 40 (pkC q) :: atR gt 75 [.pointer (some ⟨g, 0, none⟩)] :: atR gall 81 [.slice (some ⟨g7, off7, none⟩) N c7] :: atR gs 86 [.map (some gsm)] :: atR gl 85 [.int .i64 L0, .int .i64 L1] :: rowR 9 pkC (.slice (some ⟨g7, off7, none⟩) N c7) (a ++ b) :: mapR Try.prog 3 fInt fInt gsm m :: fgL g gm es') ∧ Hid (r = if is = true then q else zPk) ∧ Hid (is = decide (C1 = 0)) ∧ Hid (is = false → WInv p q a b (addS T K) (mrk m T K) es') ∧ Hid (is = true → ∀ m', (∀ i : Nat, i < la + lb → (mGet m' (i : Int)).getD 0 = if offS la true (addS T K) (la + lb) i = true then 1 else 0) → WInv p q a b (offS la true (addS T K) (la + lb)) m' es'))
  case first =>
    refine wp_region_M [4,5,8] [11] hM (by kernel_rfl) ?_
    clear hM
    intro wo hM
    refine wpI_take (i := 0) (v := ?_) rfl (by kernel_rfl) (by kernel_rfl) (by kernel_rfl) (by kernel_rfl) (by first | exact fun _ _ _ h => h | exact fun _ _ _ h => HQ0.out _ _ _ _ _ h) ⟨fun r hr => (by first | exact hM.get 4 hr | exact hM.get 5 hr), fun r hr => (by first | exact hM.get 5 hr | exact hM.get 6 hr), fun r hr => (by first | exact hM.get 8 hr | exact hM.get 9 hr), trivial⟩ (Or.inl ⟨by rfl, ?hy⟩) ?_
    case hy => (rintro W ⟨i4, i5, i8, -⟩; have c4 := (show At W _ _ _ from i4 _ rfl).cell; have c5 := (show At W _ _ _ from i5 _ rfl).cell; have c8 := HW8.out W (i8 _ rfl); go_simp; (try with_reducible rfl))
    simp only [Act.put, List.getElem_toArray, List.getElem_cons_succ, List.getElem_cons_zero, List.setIfInBounds_toArray, List.set_cons_zero, List.set_cons_succ]
    refine wpI_take (i := 1) (v := ?_) rfl (by kernel_rfl) (by kernel_rfl) (by kernel_rfl) (by kernel_rfl) (by first | exact fun _ _ _ h => h | exact fun _ _ _ h => HQ0.out _ _ _ _ _ h) ⟨fun r hr => (by first | exact hM.get 4 hr | exact hM.get 5 hr), fun r hr => (by first | exact hM.get 5 hr | exact hM.get 6 hr), fun r hr => (by first | exact hM.get 8 hr | exact hM.get 9 hr), trivial⟩ (Or.inl ⟨by rfl, ?hy⟩) ?_
    case hy => (rintro W ⟨i4, i5, i8, -⟩; have c4 := (show At W _ _ _ from i4 _ rfl).cell; have c5 := (show At W _ _ _ from i5 _ rfl).cell; have c8 := HW8.out W (i8 _ rfl); go_simp; (try with_reducible rfl))
    simp only [Act.put, List.getElem_toArray, List.getElem_cons_succ, List.getElem_cons_zero, List.setIfInBounds_toArray, List.set_cons_zero, List.set_cons_succ]
    refine wpI_takeP (i := 2) (v := ?_) rfl (by kernel_rfl) (by kernel_rfl) (by kernel_rfl) (by first | exact fun _ _ _ h => h | exact fun _ _ _ h => HQ0.out _ _ _ _ _ h) (Or.inl ⟨by rfl, ?hy⟩) ?_
    case hy => (intro W; go_simp; (try with_reducible rfl))
    simp only [Act.put, List.getElem_toArray, List.getElem_cons_succ, List.getElem_cons_zero, List.setIfInBounds_toArray, List.set_cons_zero, List.set_cons_succ]
    refine wpI_takeP (i := 3) (v := ?_) rfl (by kernel_rfl) (by kernel_rfl) (by kernel_rfl) (by first | exact fun _ _ _ h => h | exact fun _ _ _ h => HQ0.out _ _ _ _ _ h) (Or.inl ⟨by rfl, ?hy⟩) ?_
    case hy => (intro W; go_simp; (try with_reducible rfl))
    simp only [Act.put, List.getElem_toArray, List.getElem_cons_succ, List.getElem_cons_zero, List.setIfInBounds_toArray, List.set_cons_zero, List.set_cons_succ]
    refine wpI_take (i := 4) (v := .agg (pkC x).toArray) rfl (by kernel_rfl) (by kernel_rfl) (by kernel_rfl) (by kernel_rfl) (by first | exact fun _ _ _ h => h | exact fun _ _ _ h => HQ0.out _ _ _ _ _ h) ⟨fun r hr => (by first | exact hM.get 4 hr | exact hM.get 5 hr), fun r hr => (by first | exact hM.get 5 hr | exact hM.get 6 hr), fun r hr => (by first | exact hM.get 8 hr | exact hM.get 9 hr), trivial⟩ (Or.inl ⟨by rfl, ?hy⟩) ?_
    case hy => (rintro W ⟨i4, i5, i8, -⟩; have c4 := (show At W _ _ _ from i4 _ rfl).cell; have c5 := (show At W _ _ _ from i5 _ rfl).cell; have c8 := HW8.out W (i8 _ rfl); exact exec_loadw _ _ rfl g7 (off7 + K * 9) (by go_simp) (pkC x) _ Try.underlying40 rfl sz_Packet c8)
    simp only [Act.put, List.getElem_toArray, List.getElem_cons_succ, List.getElem_cons_zero, List.setIfInBounds_toArray, List.set_cons_zero, List.set_cons_succ]
    refine wpI_two (i := 5) (j := 10) rfl rfl (by kernel_rfl) ?_ ?_
    · (try simp only [Act.put, List.getElem_toArray, List.getElem_cons_succ, List.getElem_cons_zero, List.setIfInBounds_toArray, List.set_cons_zero, List.set_cons_succ])
      go_wp2_with (first
          | go_skip
          | ((with_reducible refine at_alloc_ (T := 40) ?_); refine wpList_alloc_mem rfl 40 rfl _ zv_Packet _ rfl hM ?_; clear hM; intro gx W hM; replace hM := fg_last hM)
          | ((with_reducible refine at_store_ (T := 40) ?_); refine wpList_store_mem rfl 40 _ _ rfl 0 _ _ _ _ hM rfl rfl rfl rfl sz_Packet rfl ?_; clear hM; intro W hM; simp only [List.set_cons_zero] at hM)
          | (go_at_call 36; ((first | (refine (HIN.out _ (fg_hand [_, _, _, _, _, _, _, _, _, _] hM)).mono ?_; rintro e W ⟨r, is, es', rfl, hM6, HR, HIS, HW1, HW2⟩; replace hM := fg_back [_, _, _, _, _, _, _, _, _, _] hM hM6) | (refine (HIN.out _ (fg_hand [_, _, _, _, _, _, _, _, _, _, _] hM)).mono ?_; rintro e W ⟨r, is, es', rfl, hM6, HR, HIS, HW1, HW2⟩; replace hM := fg_back [_, _, _, _, _, _, _, _, _, _, _] hM hM6)); clear hM6; simp only [List.cons_append, List.nil_append] at hM; dsimp only))
          | ((with_reducible refine at_box_ ?_); refine wpList_box_mem rfl _ _ rfl _ rfl hM ?_; clear hM; intro gb W hM; first | (simp only [List.nil_append] at hM) | (simp only [List.cons_append, List.nil_append] at hM)))
      refine contI_normal ⟨fun r hr => (by first | exact hM.get 4 hr | exact hM.get 5 hr), fun r hr => (by first | exact hM.get 5 hr | exact hM.get 6 hr), fun r hr => (by first | exact hM.get 8 hr | exact hM.get 9 hr), trivial⟩ ?_
      (try simp only [Act.put, List.getElem_toArray, List.getElem_cons_succ, List.getElem_cons_zero, List.setIfInBounds_toArray, List.set_cons_zero, List.set_cons_succ])
      refine wpI_takeP (i := 6) (v := ?_) rfl (by kernel_rfl) (by kernel_rfl) (by kernel_rfl) (by first | exact fun _ _ _ h => h | exact fun _ _ _ h => HQ0.out _ _ _ _ _ h) (Or.inl ⟨by rfl, ?hy⟩) ?_
      case hy => (intro W; go_simp; (try with_reducible rfl))
      simp only [Act.put, List.getElem_toArray, List.getElem_cons_succ, List.getElem_cons_zero, List.setIfInBounds_toArray, List.set_cons_zero, List.set_cons_succ]
      refine wpI_takeP (i := 7) (v := ?_) rfl (by kernel_rfl) (by kernel_rfl) (by kernel_rfl) (by first | exact fun _ _ _ h => h | exact fun _ _ _ h => HQ0.out _ _ _ _ _ h) (Or.inl ⟨by rfl, ?hy⟩) ?_
      case hy => (intro W; go_simp; (try with_reducible rfl))
      simp only [Act.put, List.getElem_toArray, List.getElem_cons_succ, List.getElem_cons_zero, List.setIfInBounds_toArray, List.set_cons_zero, List.set_cons_succ]
      refine wpI_takeP (i := 8) (v := ?_) rfl (by kernel_rfl) (by kernel_rfl) (by kernel_rfl) (by first | exact fun _ _ _ h => h | exact fun _ _ _ h => HQ0.out _ _ _ _ _ h) (Or.inl ⟨by rfl, ?hy⟩) ?_
      case hy => (intro W; go_simp; (try with_reducible rfl))
      simp only [Act.put, List.getElem_toArray, List.getElem_cons_succ, List.getElem_cons_zero, List.setIfInBounds_toArray, List.set_cons_zero, List.set_cons_succ]
      refine wpI_takeP (i := 9) (v := ?_) rfl (by kernel_rfl) (by kernel_rfl) (by kernel_rfl) (by first | exact fun _ _ _ h => h | exact fun _ _ _ h => HQ0.out _ _ _ _ _ h) (Or.inl ⟨by rfl, ?hy⟩) ?_
      case hy => (intro W; go_simp; (try with_reducible rfl))
      simp only [Act.put, List.getElem_toArray, List.getElem_cons_succ, List.getElem_cons_zero, List.setIfInBounds_toArray, List.set_cons_zero, List.set_cons_succ]
      refine wpI_one (i := 10) rfl (by kernel_rfl) ?_
      (try simp only [Act.put, List.getElem_toArray, List.getElem_cons_succ, List.getElem_cons_zero, List.setIfInBounds_toArray, List.set_cons_zero, List.set_cons_succ])
      go_wp2_with (first
          | go_skip
          | ((with_reducible refine at_alloc_ (T := 40) ?_); refine wpList_alloc_mem rfl 40 rfl _ zv_Packet _ rfl hM ?_; clear hM; intro gx W hM; replace hM := fg_last hM)
          | ((with_reducible refine at_store_ (T := 40) ?_); refine wpList_store_mem rfl 40 _ _ rfl 0 _ _ _ _ hM rfl rfl rfl rfl sz_Packet rfl ?_; clear hM; intro W hM; simp only [List.set_cons_zero] at hM)
          | (go_at_call 36; ((first | (refine (HIN.out _ (fg_hand [_, _, _, _, _, _, _, _, _, _] hM)).mono ?_; rintro e W ⟨r, is, es', rfl, hM6, HR, HIS, HW1, HW2⟩; replace hM := fg_back [_, _, _, _, _, _, _, _, _, _] hM hM6) | (refine (HIN.out _ (fg_hand [_, _, _, _, _, _, _, _, _, _, _] hM)).mono ?_; rintro e W ⟨r, is, es', rfl, hM6, HR, HIS, HW1, HW2⟩; replace hM := fg_back [_, _, _, _, _, _, _, _, _, _, _] hM hM6)); clear hM6; simp only [List.cons_append, List.nil_append] at hM; dsimp only))
          | ((with_reducible refine at_box_ ?_); refine wpList_box_mem rfl _ _ rfl _ rfl hM ?_; clear hM; intro gb W hM; first | (simp only [List.nil_append] at hM) | (simp only [List.cons_append, List.nil_append] at hM)))
      refine contI_normal ⟨fun r hr => (by first | exact hM.get 4 hr | exact hM.get 5 hr), fun r hr => (by first | exact hM.get 5 hr | exact hM.get 6 hr), fun r hr => (by first | exact hM.get 8 hr | exact hM.get 9 hr), trivial⟩ ?_
      (try simp only [Act.put, List.getElem_toArray, List.getElem_cons_succ, List.getElem_cons_zero, List.setIfInBounds_toArray, List.set_cons_zero, List.set_cons_succ])
      refine wpI_one (i := 11) rfl (by kernel_rfl) ?_
      (try simp only [Act.put, List.getElem_toArray, List.getElem_cons_succ, List.getElem_cons_zero, List.setIfInBounds_toArray, List.set_cons_zero, List.set_cons_succ])
      go_wp2_with (first
          | go_skip
          | ((with_reducible refine at_alloc_ (T := 40) ?_); refine wpList_alloc_mem rfl 40 rfl _ zv_Packet _ rfl hM ?_; clear hM; intro gx W hM; replace hM := fg_last hM)
          | ((with_reducible refine at_store_ (T := 40) ?_); refine wpList_store_mem rfl 40 _ _ rfl 0 _ _ _ _ hM rfl rfl rfl rfl sz_Packet rfl ?_; clear hM; intro W hM; simp only [List.set_cons_zero] at hM)
          | (go_at_call 36; ((first | (refine (HIN.out _ (fg_hand [_, _, _, _, _, _, _, _, _, _] hM)).mono ?_; rintro e W ⟨r, is, es', rfl, hM6, HR, HIS, HW1, HW2⟩; replace hM := fg_back [_, _, _, _, _, _, _, _, _, _] hM hM6) | (refine (HIN.out _ (fg_hand [_, _, _, _, _, _, _, _, _, _, _] hM)).mono ?_; rintro e W ⟨r, is, es', rfl, hM6, HR, HIS, HW1, HW2⟩; replace hM := fg_back [_, _, _, _, _, _, _, _, _, _, _] hM hM6)); clear hM6; simp only [List.cons_append, List.nil_append] at hM; dsimp only))
          | ((with_reducible refine at_box_ ?_); refine wpList_box_mem rfl _ _ rfl _ rfl hM ?_; clear hM; intro gb W hM; first | (simp only [List.nil_append] at hM) | (simp only [List.cons_append, List.nil_append] at hM)))
      refine contI_late (by decide) ?_
      (try simp only [Act.put, List.getElem_toArray, List.getElem_cons_succ, List.getElem_cons_zero, List.setIfInBounds_toArray, List.set_cons_zero, List.set_cons_succ])
      refine wpI_takeP (i := 12) (v := ?_) rfl (by kernel_rfl) (by kernel_rfl) (by kernel_rfl) (by first | exact fun _ _ _ h => h | exact fun _ _ _ h => HQ0.out _ _ _ _ _ h) (Or.inl ⟨by rfl, ?hy⟩) ?_
      case hy => (intro W; go_simp; (try with_reducible rfl))
      simp only [Act.put, List.getElem_toArray, List.getElem_cons_succ, List.getElem_cons_zero, List.setIfInBounds_toArray, List.set_cons_zero, List.set_cons_succ]
      refine wpI_takeP (i := 13) (v := ?_) rfl (by kernel_rfl) (by kernel_rfl) (by kernel_rfl) (by first | exact fun _ _ _ h => h | exact fun _ _ _ h => HQ0.out _ _ _ _ _ h) (Or.inl ⟨by rfl, ?hy⟩) ?_
      case hy => (intro W; go_simp; (try with_reducible rfl))
      simp only [Act.put, List.getElem_toArray, List.getElem_cons_succ, List.getElem_cons_zero, List.setIfInBounds_toArray, List.set_cons_zero, List.set_cons_succ]
      refine wpI_done (by kernel_rfl) ?_ _
      (try simp only [Act.put, List.getElem_toArray, List.getElem_cons_succ, List.getElem_cons_zero, List.setIfInBounds_toArray, List.set_cons_zero, List.set_cons_succ])
      (go_wp2_with fail; go_meet; case rel => exact ⟨gx, r, is, es', rfl, rfl, rfl, hM, HR, HIS, HW1, HW2⟩)
    · (try simp only [Act.put, List.getElem_toArray, List.getElem_cons_succ, List.getElem_cons_zero, List.setIfInBounds_toArray, List.set_cons_zero, List.set_cons_succ])
      go_wp2_with (first
          | go_skip
          | ((with_reducible refine at_alloc_ (T := 40) ?_); refine wpList_alloc_mem rfl 40 rfl _ zv_Packet _ rfl hM ?_; clear hM; intro gx W hM; replace hM := fg_last hM)
          | ((with_reducible refine at_store_ (T := 40) ?_); refine wpList_store_mem rfl 40 _ _ rfl 0 _ _ _ _ hM rfl rfl rfl rfl sz_Packet rfl ?_; clear hM; intro W hM; simp only [List.set_cons_zero] at hM)
          | (go_at_call 36; ((first | (refine (HIN.out _ (fg_hand [_, _, _, _, _, _, _, _, _, _] hM)).mono ?_; rintro e W ⟨r, is, es', rfl, hM6, HR, HIS, HW1, HW2⟩; replace hM := fg_back [_, _, _, _, _, _, _, _, _, _] hM hM6) | (refine (HIN.out _ (fg_hand [_, _, _, _, _, _, _, _, _, _, _] hM)).mono ?_; rintro e W ⟨r, is, es', rfl, hM6, HR, HIS, HW1, HW2⟩; replace hM := fg_back [_, _, _, _, _, _, _, _, _, _, _] hM hM6)); clear hM6; simp only [List.cons_append, List.nil_append] at hM; dsimp only))
          | ((with_reducible refine at_box_ ?_); refine wpList_box_mem rfl _ _ rfl _ rfl hM ?_; clear hM; intro gb W hM; first | (simp only [List.nil_append] at hM) | (simp only [List.cons_append, List.nil_append] at hM)))
      refine contI_normal ⟨fun r hr => (by first | exact hM.get 4 hr | exact hM.get 5 hr), fun r hr => (by first | exact hM.get 5 hr | exact hM.get 6 hr), fun r hr => (by first | exact hM.get 8 hr | exact hM.get 9 hr), trivial⟩ ?_
      (try simp only [Act.put, List.getElem_toArray, List.getElem_cons_succ, List.getElem_cons_zero, List.setIfInBounds_toArray, List.set_cons_zero, List.set_cons_succ])
      refine wpI_one (i := 5) rfl (by kernel_rfl) ?_
      (try simp only [Act.put, List.getElem_toArray, List.getElem_cons_succ, List.getElem_cons_zero, List.setIfInBounds_toArray, List.set_cons_zero, List.set_cons_succ])
      go_wp2_with (first
          | go_skip
          | ((with_reducible refine at_alloc_ (T := 40) ?_); refine wpList_alloc_mem rfl 40 rfl _ zv_Packet _ rfl hM ?_; clear hM; intro gx W hM; replace hM := fg_last hM)
          | ((with_reducible refine at_store_ (T := 40) ?_); refine wpList_store_mem rfl 40 _ _ rfl 0 _ _ _ _ hM rfl rfl rfl rfl sz_Packet rfl ?_; clear hM; intro W hM; simp only [List.set_cons_zero] at hM)
          | (go_at_call 36; ((first | (refine (HIN.out _ (fg_hand [_, _, _, _, _, _, _, _, _, _] hM)).mono ?_; rintro e W ⟨r, is, es', rfl, hM6, HR, HIS, HW1, HW2⟩; replace hM := fg_back [_, _, _, _, _, _, _, _, _, _] hM hM6) | (refine (HIN.out _ (fg_hand [_, _, _, _, _, _, _, _, _, _, _] hM)).mono ?_; rintro e W ⟨r, is, es', rfl, hM6, HR, HIS, HW1, HW2⟩; replace hM := fg_back [_, _, _, _, _, _, _, _, _, _, _] hM hM6)); clear hM6; simp only [List.cons_append, List.nil_append] at hM; dsimp only))
          | ((with_reducible refine at_box_ ?_); refine wpList_box_mem rfl _ _ rfl _ rfl hM ?_; clear hM; intro gb W hM; first | (simp only [List.nil_append] at hM) | (simp only [List.cons_append, List.nil_append] at hM)))
      refine contI_normal ⟨fun r hr => (by first | exact hM.get 4 hr | exact hM.get 5 hr), fun r hr => (by first | exact hM.get 5 hr | exact hM.get 6 hr), fun r hr => (by first | exact hM.get 8 hr | exact hM.get 9 hr), trivial⟩ ?_
      (try simp only [Act.put, List.getElem_toArray, List.getElem_cons_succ, List.getElem_cons_zero, List.setIfInBounds_toArray, List.set_cons_zero, List.set_cons_succ])
      refine wpI_takeP (i := 6) (v := ?_) rfl (by kernel_rfl) (by kernel_rfl) (by kernel_rfl) (by first | exact fun _ _ _ h => h | exact fun _ _ _ h => HQ0.out _ _ _ _ _ h) (Or.inl ⟨by rfl, ?hy⟩) ?_
      case hy => (intro W; go_simp; (try with_reducible rfl))
      simp only [Act.put, List.getElem_toArray, List.getElem_cons_succ, List.getElem_cons_zero, List.setIfInBounds_toArray, List.set_cons_zero, List.set_cons_succ]
      refine wpI_takeP (i := 7) (v := ?_) rfl (by kernel_rfl) (by kernel_rfl) (by kernel_rfl) (by first | exact fun _ _ _ h => h | exact fun _ _ _ h => HQ0.out _ _ _ _ _ h) (Or.inl ⟨by rfl, ?hy⟩) ?_
      case hy => (intro W; go_simp; (try with_reducible rfl))
      simp only [Act.put, List.getElem_toArray, List.getElem_cons_succ, List.getElem_cons_zero, List.setIfInBounds_toArray, List.set_cons_zero, List.set_cons_succ]
      refine wpI_takeP (i := 8) (v := ?_) rfl (by kernel_rfl) (by kernel_rfl) (by kernel_rfl) (by first | exact fun _ _ _ h => h | exact fun _ _ _ h => HQ0.out _ _ _ _ _ h) (Or.inl ⟨by rfl, ?hy⟩) ?_
      case hy => (intro W; go_simp; (try with_reducible rfl))
      simp only [Act.put, List.getElem_toArray, List.getElem_cons_succ, List.getElem_cons_zero, List.setIfInBounds_toArray, List.set_cons_zero, List.set_cons_succ]
      refine wpI_takeP (i := 9) (v := ?_) rfl (by kernel_rfl) (by kernel_rfl) (by kernel_rfl) (by first | exact fun _ _ _ h => h | exact fun _ _ _ h => HQ0.out _ _ _ _ _ h) (Or.inl ⟨by rfl, ?hy⟩) ?_
      case hy => (intro W; go_simp; (try with_reducible rfl))
      simp only [Act.put, List.getElem_toArray, List.getElem_cons_succ, List.getElem_cons_zero, List.setIfInBounds_toArray, List.set_cons_zero, List.set_cons_succ]
      refine wpI_one (i := 11) rfl (by kernel_rfl) ?_
      (try simp only [Act.put, List.getElem_toArray, List.getElem_cons_succ, List.getElem_cons_zero, List.setIfInBounds_toArray, List.set_cons_zero, List.set_cons_succ])
      go_wp2_with (first
          | go_skip
          | ((with_reducible refine at_alloc_ (T := 40) ?_); refine wpList_alloc_mem rfl 40 rfl _ zv_Packet _ rfl hM ?_; clear hM; intro gx W hM; replace hM := fg_last hM)
          | ((with_reducible refine at_store_ (T := 40) ?_); refine wpList_store_mem rfl 40 _ _ rfl 0 _ _ _ _ hM rfl rfl rfl rfl sz_Packet rfl ?_; clear hM; intro W hM; simp only [List.set_cons_zero] at hM)
          | (go_at_call 36; ((first | (refine (HIN.out _ (fg_hand [_, _, _, _, _, _, _, _, _, _] hM)).mono ?_; rintro e W ⟨r, is, es', rfl, hM6, HR, HIS, HW1, HW2⟩; replace hM := fg_back [_, _, _, _, _, _, _, _, _, _] hM hM6) | (refine (HIN.out _ (fg_hand [_, _, _, _, _, _, _, _, _, _, _] hM)).mono ?_; rintro e W ⟨r, is, es', rfl, hM6, HR, HIS, HW1, HW2⟩; replace hM := fg_back [_, _, _, _, _, _, _, _, _, _, _] hM hM6)); clear hM6; simp only [List.cons_append, List.nil_append] at hM; dsimp only))
          | ((with_reducible refine at_box_ ?_); refine wpList_box_mem rfl _ _ rfl _ rfl hM ?_; clear hM; intro gb W hM; first | (simp only [List.nil_append] at hM) | (simp only [List.cons_append, List.nil_append] at hM)))
      refine contI_late (by decide) ?_
      (try simp only [Act.put, List.getElem_toArray, List.getElem_cons_succ, List.getElem_cons_zero, List.setIfInBounds_toArray, List.set_cons_zero, List.set_cons_succ])
      refine wpI_takeP (i := 12) (v := ?_) rfl (by kernel_rfl) (by kernel_rfl) (by kernel_rfl) (by first | exact fun _ _ _ h => h | exact fun _ _ _ h => HQ0.out _ _ _ _ _ h) (Or.inl ⟨by rfl, ?hy⟩) ?_
      case hy => (intro W; go_simp; (try with_reducible rfl))
      simp only [Act.put, List.getElem_toArray, List.getElem_cons_succ, List.getElem_cons_zero, List.setIfInBounds_toArray, List.set_cons_zero, List.set_cons_succ]
      refine wpI_takeP (i := 13) (v := ?_) rfl (by kernel_rfl) (by kernel_rfl) (by kernel_rfl) (by first | exact fun _ _ _ h => h | exact fun _ _ _ h => HQ0.out _ _ _ _ _ h) (Or.inl ⟨by rfl, ?hy⟩) ?_
      case hy => (intro W; go_simp; (try with_reducible rfl))
      simp only [Act.put, List.getElem_toArray, List.getElem_cons_succ, List.getElem_cons_zero, List.setIfInBounds_toArray, List.set_cons_zero, List.set_cons_succ]
      refine wpI_done (by kernel_rfl) ?_ _
      (try simp only [Act.put, List.getElem_toArray, List.getElem_cons_succ, List.getElem_cons_zero, List.setIfInBounds_toArray, List.set_cons_zero, List.set_cons_succ])
      (go_wp2_with fail; go_meet; case rel => exact ⟨gx, r, is, es', rfl, rfl, rfl, hM, HR, HIS, HW1, HW2⟩)
  case rest =>
    obtain ⟨gx, r, is, es', rfl, rfl, rfl, hM2, HR, HIS, HW1, HW2⟩ := hcut
    clear hM HIN HW8
    have hM := hM2
    clear hM2
    obtain ⟨kv, hkv⟩ : ∃ z : Int, z = if T K = true then 1 else 0 := ⟨_, rfl⟩
    rw [← hkv] at HKN
    have HKV := Lib.hid hkv
    clear hkv
    go_upto_if 37 with (first | go_skip | ((with_reducible refine at_lookup_ ?_); refine wpList_lookup_m (by rfl) _ _ false rfl mapTy_ii (.int .i64 0) (fun _ => by kernel_rfl) 10 hM rfl rfl ((K : Nat) : Int) rfl (HKO.out _ hkN) ?_; simp only [Bool.false_eq_true, if_false, HKN.out]) | ((with_reducible refine at_load_ ?_); refine at_wanted_ (by rfl) ?_; refine wpList_loadf_mem (by go_simp) _ _ rfl (by kernel_rfl) 7 _ _ _ _ _ hM rfl rfl rfl ?_))
    go_cut [] (fun W => MemX E w0 W (atR gx 40 (pkC r) :: atR gw 40 (pkC q) :: atR gp 40 (pkC p) :: atR ga 81 [.slice Aa la ca] :: atR gq 40 (pkC q) :: atR gt 75 [.pointer (some ⟨g, 0, none⟩)] :: atR gall 81 [.slice (some ⟨g7, off7, none⟩) N c7] :: atR gs 86 [.map (some gsm)] :: atR gl 85 [.int .i64 L0, .int .i64 C1] :: rowR 9 pkC (.slice (some ⟨g7, off7, none⟩) N c7) (a ++ b) :: mapR Try.prog 3 fInt fInt gsm (mrk m T K) :: fgL g gm es'))
    case first =>
      cases hT : T K with
      | true =>
        have hk1 : kv = 1 := by rw [HKV.out, hT]; rfl
        subst hk1
        have hcc : C1 = L1 := by rw [HC1.out, addS_same (S := fun j => T (la + j)) (by show T (la + k) = true; rw [← HKK.out]; exact hT), HL1.out]
        have hmm : mrk m T K = m := if_pos hT
        have HK := Lib.hid (show MemX E w0 wc (atR gx 40 (pkC r) :: atR gw 40 (pkC q) :: atR gp 40 (pkC p) :: atR ga 81 [.slice Aa la ca] :: atR gq 40 (pkC q) :: atR gt 75 [.pointer (some ⟨g, 0, none⟩)] :: atR gall 81 [.slice (some ⟨g7, off7, none⟩) N c7] :: atR gs 86 [.map (some gsm)] :: atR gl 85 [.int .i64 L0, .int .i64 C1] :: rowR 9 pkC (.slice (some ⟨g7, off7, none⟩) N c7) (a ++ b) :: mapR Try.prog 3 fInt fInt gsm (mrk m T K) :: fgL g gm es') from by rw [hcc, hmm]; exact hM)
        clear hT hcc hmm
        go_wp2_with fail
        go_meet
        case rel => exact HK.out
      | false =>
        have hk1 : kv = 0 := by rw [HKV.out, hT]; rfl
        subst hk1
        have hcc : C1 + 1 = L1 := by rw [HL1.out]; exact HADD.out hT
        have hmm : mrk m T K = mPut m (K : Nat) 1 := if_neg (by rw [hT]; decide)
        have HMM := Lib.hid hmm
        clear hT hmm
        go_upto_region 10 with (first
          | go_skip
          | ((with_reducible refine at_load_ ?_); refine at_wanted_ (by rfl) ?_; first | (refine wpList_loadf_mem (by go_simp) _ _ rfl (by kernel_rfl) 7 _ _ _ _ _ hM rfl rfl rfl ?_) | (refine wpList_loadf_mem (by go_simp) _ _ rfl (by kernel_rfl) 8 _ _ _ _ _ hM rfl rfl rfl ?_))
          | ((with_reducible refine at_store_ ?_); refine wpList_store1_mem rfl _ _ _ rfl 8 _ _ _ _ _ hM rfl rfl (by first | ((conv => lhs; whnf); done) | ((conv => lhs; whnf); rfl)) (by rfl) (by rfl) (by kernel_rfl) rfl ?_; clear hM; intro W hM; simp only [List.set_cons_succ, List.set_cons_zero] at hM)
          | ((with_reducible refine at_mapUpdate_ ?_); refine wpList_mapUpdate_m rfl _ _ _ rfl mapTy_ii 10 hM rfl rfl ((K : Nat) : Int) rfl (HKO.out _ hkN) 1 rfl ?_; clear hM; intro W hM; simp only [List.set_cons_succ, List.set_cons_zero] at hM))
        have hee : (L1 : Int) - 1 = (C1 : Int) := by omega
        simp only [hee] at hM
        go_wp2_with fail
        go_meet
        case rel => rw [HMM.out]; exact hM
    case rest =>
      clear hM
      have hM := hcut
      clear hcut
      have q2 : ((C1 : Int) == 0) = is := by
        rw [HIS.out]
        by_cases h0 : C1 = 0
        · rw [h0]; rfl
        · rw [decide_eq_false h0]; simpa using h0
      have q3 : (is != ((C1 : Int) == 0)) = false := by rw [q2]; simp
      cases is with
      | false =>
        have hr : r = zPk := HR.out
        subst hr
        go_wp2_with (first
          | go_skip
          | ((with_reducible refine at_load_ (T := 40) ?_); refine wpList_loadg_mem (by go_simp) 40 _ rfl 0 _ _ _ hM rfl rfl _ Try.underlying40 rfl sz_Packet ?_)
          | ((with_reducible refine at_load_ ?_); refine at_wanted_ (by rfl) ?_; refine wpList_loadf_mem (by go_simp) _ _ rfl (by kernel_rfl) 8 _ _ _ _ _ hM rfl rfl rfl ?_)
          | ((with_reducible refine at_eq_ (T := 40) ?_); refine wpList_eq_mem (by go_simp) 40 _ _ _ rfl _ _ rfl rfl eg_Packet _ (eqT_Packet zPk) ?_))
        go_ret
        exact ⟨rfl, _, _, _, _, _, (show MemX E w0 _ ([_, _] ++ (atR gp 40 (pkC p) :: atR ga 81 [.slice Aa la ca] :: atR gq 40 (pkC q) :: atR gt 75 [.pointer (some ⟨g, 0, none⟩)] :: atR gall 81 [.slice (some ⟨g7, off7, none⟩) N c7] :: atR gs 86 [.map (some gsm)] :: atR gl 85 [.int .i64 L0, .int .i64 C1] :: rowR 9 pkC (.slice (some ⟨g7, off7, none⟩) N c7) (a ++ b) :: mapR Try.prog 3 fInt fInt gsm (mrk m T K) :: fgL g gm es')) from hM).drop_, Lib.hid (HW1.out (by simp)), Lib.hid (by rw [HL0.out, HKK.out, cnt_lo_addhi]), Lib.hid (by rw [HC1.out, HKK.out, cnt_hi_addhi])⟩
      | true =>
        have hr : r = q := HR.out
        rw [hr] at hM
        clear hr HR
        have HW3 := Lib.hid (HW2.out (by simp))
        have HMO := Lib.hid (show mOk (mrk m T K) from by unfold mrk; split <;> first | exact HMK.out | exact mOk_put HMK.out _ _)
        have HSM := Lib.hid (show ∀ i : Nat, i < la + lb → (mGet (mrk m T K) (i : Int)).getD 0 = if addS T K i = true then 1 else 0 from mrk_at HMK.out (by rw [← HLA.out, ← HLB.out]; exact HSN.out) (by rw [← HNN.out]; exact hkN))
        clear HW1 HW2 HIS HMK HSN HKN HKV
        go_upto_region 15 with (first
          | go_skip
          | ((with_reducible refine at_load_ ?_); refine at_wanted_ (by rfl) ?_; refine wpList_loadf_mem (by go_simp) _ _ rfl (by kernel_rfl) 8 _ _ _ _ _ hM rfl rfl rfl ?_)
          | ((with_reducible refine at_store_ ?_); refine wpList_store1_mem rfl _ _ _ rfl 8 _ _ _ _ _ hM rfl rfl (by first | ((conv => lhs; whnf); done) | ((conv => lhs; whnf); rfl)) (by rfl) (by rfl) (by kernel_rfl) rfl ?_; clear hM; intro W hM; simp only [List.set_cons_succ, List.set_cons_zero] at hM))
        clear q2 q3
        go_wp2_with (first
          | go_skip
          | ((with_reducible refine at_load_ ?_); refine at_wanted_ (by rfl) ?_; refine wpList_loadf_mem (by go_simp) _ _ rfl (by kernel_rfl) 6 _ _ _ _ _ hM rfl rfl rfl ?_))
        go_loopg [60] N (fun gh i wr => ∃ (j : Nat) (m' : List (Int × Int)), gh = N - j ∧ j ≤ N ∧ i = .int .i64 j ∧ MemX E w0 wr (atR gx 40 (pkC q) :: atR gw 40 (pkC q) :: atR gp 40 (pkC p) :: atR ga 81 [.slice Aa la ca] :: atR gq 40 (pkC q) :: atR gt 75 [.pointer (some ⟨g, 0, none⟩)] :: atR gall 81 [.slice (some ⟨g7, off7, none⟩) N c7] :: atR gs 86 [.map (some gsm)] :: atR gl 85 [.int .i64 L0, .int .i64 (sdN la true j : Nat)] :: rowR 9 pkC (.slice (some ⟨g7, off7, none⟩) N c7) (a ++ b) :: mapR Try.prog 3 fInt fInt gsm m' :: fgL g gm es') ∧ Hid (mOk m') ∧ Hid (∀ i : Nat, i < la + lb → (mGet m' (i : Int)).getD 0 = if offS la true (addS T K) j i = true then 1 else 0))
        case atStart => exact ⟨0, mrk m T K, by omega, by omega, rfl, by rw [show sdN la true 0 = 0 from Nat.zero_sub la]; exact hM, HMO, by rw [offS_zero]; exact HSM⟩
        case round =>
          clear hM HMO HSM
          obtain ⟨j, m', hgj, hj, rfl, hM, HMO, HSM⟩ := hrel
          have HGJ := Lib.hid hgj
          clear hgj
          by_cases hlt : j < N
          · obtain ⟨S1, hS1⟩ : ∃ z : Nat, z = sdN la true j := ⟨_, rfl⟩
            rw [← hS1] at hM
            have hS1b : S1 ≤ 8002 := by rw [hS1]; unfold sdN; split <;> omega
            have HS1 := Lib.hid hS1
            clear hS1
            by_cases hs : decide (la ≤ j) = true
            · have r1 : decide ((la : Int) ≤ (j : Int)) = true := by rw [← hs]; exact decide_eq_decide.2 (by omega)
              have HSS := Lib.hid hs
              go_upto_region 21 with (first
                | go_skip
                | ((with_reducible refine at_load_ ?_); refine at_wanted_ (by rfl) ?_; first | (refine wpList_loadf_mem (by go_simp) _ _ rfl (by kernel_rfl) 3 _ _ _ _ _ hM rfl rfl rfl ?_) | (refine wpList_loadf_mem (by go_simp) _ _ rfl (by kernel_rfl) 7 _ _ _ _ _ hM rfl rfl rfl ?_) | (refine wpList_loadf_mem (by go_simp) _ _ rfl (by kernel_rfl) 8 _ _ _ _ _ hM rfl rfl rfl ?_))
                | ((with_reducible refine at_store_ ?_); refine wpList_store1_mem rfl _ _ _ rfl 8 _ _ _ _ _ hM rfl rfl (by first | ((conv => lhs; whnf); done) | ((conv => lhs; whnf); rfl)) (by rfl) (by rfl) (by kernel_rfl) rfl ?_; clear hM; intro W hM; simp only [List.set_cons_succ, List.set_cons_zero] at hM)
                | ((with_reducible refine at_mapUpdate_ ?_); refine wpList_mapUpdate_m rfl _ _ _ rfl mapTy_ii 10 hM rfl rfl ((j : Nat) : Int) rfl (HKO.out _ hlt) 0 rfl ?_; clear hM; intro W hM; simp only [List.set_cons_succ, List.set_cons_zero] at hM))
              have he : (S1 : Int) + 1 = ((sdN la true (j + 1) : Nat) : Int) := by rw [sdN_put HSS.out, ← HS1.out]; omega
              simp only [he] at hM
              have HMO2 := Lib.hid (mOk_put HMO.out (j : Int) 0)
              have HSM2 := Lib.hid (offS_put HMO.out HSM.out HSS.out)
              clear he
              go_wp2_with fail
              go_roundg (N - (j + 1))
              case measure => have := HGJ.out; omega
              case rel => exact ⟨j + 1, _, rfl, by omega, by go_num, hM, HMO2, HSM2⟩
            · have r1 : decide ((la : Int) ≤ (j : Int)) = !true := by
                have h1 : decide (la ≤ j) = !true := by cases hd : decide (la ≤ j) <;> simp_all
                rw [← h1]; exact decide_eq_decide.2 (by omega)
              have r2 : decide (la ≤ j) = !true := by cases hd : decide (la ≤ j) <;> simp_all
              simp only [Bool.not_true, Bool.not_false] at r1 r2
              have HSS := Lib.hid hs
              clear hs
              go_upto_region 21 with (first
                | go_skip
                | ((with_reducible refine at_load_ ?_); refine at_wanted_ (by rfl) ?_; first | (refine wpList_loadf_mem (by go_simp) _ _ rfl (by kernel_rfl) 3 _ _ _ _ _ hM rfl rfl rfl ?_) | (refine wpList_loadf_mem (by go_simp) _ _ rfl (by kernel_rfl) 7 _ _ _ _ _ hM rfl rfl rfl ?_)))
              rw [HS1.out, ← sdN_skip HSS.out] at hM
              have HSM2 := Lib.hid (show ∀ i : Nat, i < la + lb → (mGet m' (i : Int)).getD 0 = if offS la true (addS T K) (j + 1) i = true then 1 else 0 from by rw [offS_skip HSS.out]; exact HSM.out)
              go_wp2_with fail
              go_roundg (N - (j + 1))
              case measure => have := HGJ.out; omega
              case rel => exact ⟨j + 1, _, rfl, by omega, by go_num, hM, HMO, HSM2⟩
          · obtain rfl : N = j := by omega
            go_wp2_with (first
              | go_skip
              | ((with_reducible refine at_load_ (T := 40) ?_); first | (refine wpList_loadg_mem (by go_simp) 40 _ rfl 0 _ _ _ hM rfl rfl _ Try.underlying40 rfl sz_Packet ?_) | (refine wpList_loadg_mem (by go_simp) 40 _ rfl 1 _ _ _ hM rfl rfl _ Try.underlying40 rfl sz_Packet ?_))
              | ((with_reducible refine at_eq_ (T := 40) ?_); refine wpList_eq_mem (by go_simp) 40 _ _ _ rfl _ _ rfl rfl eg_Packet _ (eqT_Packet q) ?_))
            go_ret
            rw [HNN.out] at HSM
            have hM2 := (show MemX E w0 _ ([_, _] ++ (atR gp 40 (pkC p) :: atR ga 81 [.slice Aa la ca] :: atR gq 40 (pkC q) :: atR gt 75 [.pointer (some ⟨g, 0, none⟩)] :: atR gall 81 [.slice (some ⟨g7, off7, none⟩) N c7] :: atR gs 86 [.map (some gsm)] :: atR gl 85 [.int .i64 L0, .int .i64 (sdN la true N : Nat)] :: rowR 9 pkC (.slice (some ⟨g7, off7, none⟩) N c7) (a ++ b) :: mapR Try.prog 3 fInt fInt gsm m' :: fgL g gm es')) from hM).drop_
            have hsd : sdN la true N = sdN la true (la + lb) := by rw [HNN.out]
            rw [hsd] at hM2
            exact ⟨rfl, _, _, _, _, _, hM2, Lib.hid (HW3.out _ HSM.out), Lib.hid (by rw [cnt_lo_keep, HL0.out, HKK.out, cnt_lo_addhi]), Lib.hid (by rw [cnt_hi_off]; exact Nat.add_sub_cancel_left _ _)⟩
end Go.Proofs.Ytmcdmgnpbhkdhaa
