/- listen.Queue: what it is, and its contracts. -/
import Derived.Test.YtmcdmgnpbhkdhaaKeyEnd
import Derived.Test.YtmcdmgnpbhkdhaaSlDone
import Derived.Test.YtmcdmgnpbhkdhaaHand
import Derived.Test.YtmcdmgnpbhkdhaaOrd
import Derived.Test.YtmcdmgnpbhkdhaaSub
namespace Go.Proofs.Ytmcdmgnpbhkdhaa
open Go.RowKit Go.Lib
set_option linter.unusedVariables false
set_option linter.unusedSimpArgs false

structure KLis where
  bl : Int
  half : List (KEnd × Int)
  wt : List KDone
abbrev fOne (x : Int) : Value := .int .i64 x
theorem mapTy_lis : MapTy Try.prog 94 42 3 fEnd fOne := ⟨keyed_End, Try.underlying94, fun h => fEnd_inj h⟩
def lisC (q : KLis) (gm : Nat) (v : Value) : List Value := [.int .i64 q.bl, .map (some gm), v]
def lisA (g : Nat) (q : KLis) (gm : Nat) (v : Value) : Res := atR g 97 (lisC q gm v)
def lisM (q : KLis) (gm : Nat) : Res := mapR Try.prog 42 fEnd fOne gm q.half
def lisW (q : KLis) (v : Value) : Res := rowR 3 cDone v q.wt
abbrev lisL (g gm : Nat) (q : KLis) (v : Value) : List Res := [lisA g q gm v, lisM q gm, lisW q v]
def dEnd (d : KDone) : KEnd := ⟨d.a, d.p⟩
structure LisOk (q : KLis) : Prop where
  b1 : 1 ≤ q.bl
  b2 : q.bl ≤ 8
  h : q.half.length ≤ 8
  w : q.wt.length ≤ 8
def newLis (b : Int) : KLis := ⟨b, [], []⟩
theorem newlis_no (b : Int) (w : World) (h : b < 1 ∨ 8 < b) : Calls Try.prog 25 #[.int .i64 b] w fun e w' => e = .returned (.tuple #[.pointer none, .int .i64 1]) ∧ Below w.heap.size w w' := by
  by_cases h1 : b < 1
  · go_enter Try.func25, Try.ntmps25
    go_wp2_with fail
    go_ret2
    exact ⟨rfl, by repeat' (first | with_reducible exact Below.refl _ _ | with_reducible assumption | with_reducible refine Below.drew ?_ | with_reducible refine below_dn ?_ _ | with_reducible refine below_ca ?_ _ | with_reducible refine Below.setCell ?_ ?_ _ | (refine below_c ?_ (by with_reducible assumption)) | (simp <;> omega) | omega)⟩
  · have h2 : 8 < b := by omega
    go_enter Try.func25, Try.ntmps25
    go_wp2_with fail
    go_ret2
    exact ⟨rfl, by repeat' (first | with_reducible exact Below.refl _ _ | with_reducible assumption | with_reducible refine Below.drew ?_ | with_reducible refine below_dn ?_ _ | with_reducible refine below_ca ?_ _ | with_reducible refine Below.setCell ?_ ?_ _ | (refine below_c ?_ (by with_reducible assumption)) | (simp <;> omega) | omega)⟩
theorem newlis_yes (b : Int) (w : World) (h1 : 1 ≤ b) (h2 : b ≤ 8) : Calls Try.prog 25 #[.int .i64 b] w fun e w' => ∃ g gm, e = .returned (.tuple #[.pointer (some ⟨g, 0, none⟩), .int .i64 0]) ∧ Mem w w' (lisL g gm (newLis b) (.slice none 0 0)) := by
  have hM := Mem.nil w
  go_enter Try.func25, Try.ntmps25
  go_wp2_with (first
    | (refine at_makeMap_ ?_; refine wpList_makeMap_m rfl rfl Try.prog 42 fEnd fOne hM ?_; clear hM; intro gm W hM; simp only [List.nil_append] at hM)
    | (refine at_box_ ?_; refine wpList_box_mem rfl _ _ rfl _ rfl hM ?_; clear hM; intro gb W hM; first | (simp only [List.nil_append] at hM) | (simp only [List.cons_append, List.nil_append] at hM))
    | (refine at_load_ ?_; refine at_wanted_ (by go_simp) ?_; refine wpList_loadf_mem (by go_simp) _ _ rfl (by kernel_rfl) 0 _ _ _ _ _ hM rfl rfl (by first | rfl | assumption) ?_)
    | (refine at_store_ ?_; refine wpList_store1_mem rfl _ _ _ rfl 0 _ _ _ _ _ hM rfl rfl (by first | ((conv => lhs; whnf); done) | ((conv => lhs; whnf); rfl)) (by rfl) (by rfl) (by kernel_rfl) rfl ?_; clear hM; intro W hM; simp only [List.set_cons_succ, List.set_cons_zero] at hM))
  go_ret2
  refine ⟨gb, gm, rfl, ?_⟩
  have h2 := (hM.rowNil 3 cDone).perm (l' := lisL gb gm (newLis b) (.slice none 0 0)) ?_
  · exact h2
  · exact (List.Perm.swap _ _ _)
theorem waits1_any (gc : Nat) (e : KEnd) (d : KDone) (W : World) (hA : At W gc 42 (cEnd e)) :
    Calls Try.prog 53 #[.agg (cDone d).toArray, .pointer (some ⟨gc, 0, none⟩)] W fun x w' => x = .returned (.bool (decide (dEnd d = e))) ∧ Below W.heap.size W w' := by
  have hr : decide (dEnd d = e) = (decide (d.a = e.a) && decide (d.p = e.p)) := by
    rw [← Bool.decide_and]
    exact decide_eq_decide.2 ⟨fun h => by rw [← h]; exact ⟨rfl, rfl⟩, fun h => kend_ext h.1 h.2⟩
  have HR := Lib.hid hr
  clear hr
  have hM := Mem.nil W
  go_enter Try.func53, Try.ntmps53
  go_wp2_with (first
    | (refine at_eq_ ?_; refine wpList_eq_mem (by go_simp) _ _ _ _ rfl _ _ rfl rfl eg_End (decide (d.a = e.a) && decide (d.p = e.p)) (fun W => eqc_End _ _ _ _ W) ?_)
    | (refine at_load_ (T := 42) ?_; first | (refine wpList_loads_mem (by go_simp) _ _ rfl 0 _ 1 _ _ (cEnd (dEnd d)) hM rfl rfl rfl _ Try.underlying42 rfl sz_End ?_) | (refine wpList_load_mid rfl _ _ rfl gc 0 rfl (cEnd e) _ (hA.kept hM.b).range Try.underlying42 rfl sz_End ?_))
    | (refine at_box_ ?_; refine wpList_box_mem rfl _ _ rfl _ rfl hM ?_; clear hM; intro gb W hM; first | (simp only [List.nil_append] at hM) | (simp only [List.cons_append, List.nil_append] at hM)))
  go_ret
  exact ⟨ret_bool HR.out.symm, hM.b⟩
def lisI (q : KLis) (e : KEnd) : Int := idxOf (fun d => decide (dEnd d = e)) q.wt
theorem waits_any (g gm : Nat) (q : KLis) (v : Value) (e : KEnd) (w : World) (hA : At w g 97 (lisC q gm v)) (hW : Win w 0 3 v q.wt.length (q.wt.flatMap cDone)) (hn : q.wt.length ≤ 100000) :
    Calls Try.prog 44 #[.pointer (some ⟨g, 0, none⟩), .agg (cEnd e).toArray] w fun x w' => x = .returned (.int .i64 (lisI q e)) ∧ Below w.heap.size w w' := by
  have hM := Mem.nil w
  obtain ⟨A, cap, rfl⟩ := hW.form
  have hc := hA.cell
  have hlt := hA.lt
  simp only [lisC] at hc
  have HW := Lib.hid hW
  clear hW hA
  go_enter Try.func44, Try.ntmps44
  go_upto_region 1 with         (first
          | (refine at_box_ ?_; refine wpList_box_mem rfl _ _ rfl _ rfl hM ?_; clear hM; intro gb W hM; first | (simp only [List.nil_append] at hM) | (simp only [List.cons_append, List.nil_append] at hM)))
  have hc1 := fun i => (hM.b.cell (p := ⟨g, i, none⟩) hlt).trans (hc i)
  clear hc
  have HI := Lib.hid (fun lb => idx_done (.slice A q.wt.length cap) lb q.wt (fun d => decide (dEnd d = e)) W (HW.out.kept hM.b) hn)
  go_wp2_with fail
  refine (HI.out _ (fun W1 r _ hB => waits1_any gb e r W1 ((hM.kept hB).at_ 0 rfl))).mono ?_
  rintro x W1 ⟨rfl, hB⟩
  go_wp2_with fail
  go_ret
  exact ⟨rfl, below_c hM.b hB⟩
abbrev LisPre (w w' : World) (g gm : Nat) (q : KLis) (v : Value) (q' : KLis) (v' : Value) : Prop := MemX (blkE (lisL g gm q v)) w w' (lisL g gm q' v')
theorem Waits_any (g gm : Nat) (q : KLis) (v : Value) (w : World) (hM : LisPre w w g gm q v q v) (ok : LisOk q) :
    Calls Try.prog 30 #[.pointer (some ⟨g, 0, none⟩)] w fun x w' => x = .returned (.tuple #[.int .i64 q.half.length, .int .i64 q.wt.length]) ∧ LisPre w w' g gm q v q v := by
  have hW : Win w 0 3 v q.wt.length (q.wt.flatMap cDone) := hM.win_ 2 rfl
  obtain ⟨A, cap, rfl⟩ := hW.form
  clear hW
  go_enter Try.func30, Try.ntmps30
  go_upto_region 1 with (fail)
  refine wp_region_M [0] [] hM (by kernel_rfl) ?_
  clear hM
  intro wo hM
  refine wpI_takeP (i := 0) (v := ?_) rfl (by kernel_rfl) (by kernel_rfl) (by kernel_rfl) (by first | exact fun _ _ _ h => h | exact fun _ _ _ h => HQ0.out _ _ _ _ h) (Or.inl ⟨by rfl, ?hy⟩) ?_
  case hy => (intro W; go_simp; (try with_reducible rfl))
  simp only [Act.put, List.getElem_toArray, List.getElem_cons_succ, List.getElem_cons_zero, List.setIfInBounds_toArray, List.set_cons_zero, List.set_cons_succ]
  refine wpI_takeP (i := 1) (v := ?_) rfl (by kernel_rfl) (by kernel_rfl) (by kernel_rfl) (by first | exact fun _ _ _ h => h | exact fun _ _ _ h => HQ0.out _ _ _ _ h) (Or.inl ⟨by rfl, ?hy⟩) ?_
  case hy => (intro W; go_simp; (try with_reducible rfl))
  simp only [Act.put, List.getElem_toArray, List.getElem_cons_succ, List.getElem_cons_zero, List.setIfInBounds_toArray, List.set_cons_zero, List.set_cons_succ]
  refine wpI_takeP (i := 2) (v := ?_) rfl (by kernel_rfl) (by kernel_rfl) (by kernel_rfl) (by first | exact fun _ _ _ h => h | exact fun _ _ _ h => HQ0.out _ _ _ _ h) (Or.inl ⟨by rfl, ?hy⟩) ?_
  case hy => (intro W; go_simp; (try with_reducible rfl))
  simp only [Act.put, List.getElem_toArray, List.getElem_cons_succ, List.getElem_cons_zero, List.setIfInBounds_toArray, List.set_cons_zero, List.set_cons_succ]
  refine wpI_take (i := 3) (v := ?_) rfl (by kernel_rfl) (by kernel_rfl) (by kernel_rfl) (by kernel_rfl) (by first | exact fun _ _ _ h => h | exact fun _ _ _ h => HQ0.out _ _ _ _ h) ⟨fun r hr => hM.get 0 hr, trivial⟩ (Or.inl ⟨by rfl, ?hy⟩) ?_
  case hy => (rintro W ⟨i0, -⟩; have c0 := (show At W _ _ _ from i0 _ rfl).cell; (try simp only [lisC] at c0); go_simp; (try with_reducible rfl))
  simp only [Act.put, List.getElem_toArray, List.getElem_cons_succ, List.getElem_cons_zero, List.setIfInBounds_toArray, List.set_cons_zero, List.set_cons_succ]
  refine wpI_takeP (i := 5) (v := ?_) rfl (by kernel_rfl) (by kernel_rfl) (by kernel_rfl) (by first | exact fun _ _ _ h => h | exact fun _ _ _ h => HQ0.out _ _ _ _ h) (Or.inl ⟨by rfl, ?hy⟩) ?_
  case hy => (intro W; go_simp; (try with_reducible rfl))
  simp only [Act.put, List.getElem_toArray, List.getElem_cons_succ, List.getElem_cons_zero, List.setIfInBounds_toArray, List.set_cons_zero, List.set_cons_succ]
  refine wpI_takeP (i := 6) (v := ?_) rfl (by kernel_rfl) (by kernel_rfl) (by kernel_rfl) (by first | exact fun _ _ _ h => h | exact fun _ _ _ h => HQ0.out _ _ _ _ h) (Or.inl ⟨by rfl, ?hy⟩) ?_
  case hy => (intro W; go_simp; (try with_reducible rfl))
  simp only [Act.put, List.getElem_toArray, List.getElem_cons_succ, List.getElem_cons_zero, List.setIfInBounds_toArray, List.set_cons_zero, List.set_cons_succ]
  refine wpI_takeP (i := 7) (v := ?_) rfl (by kernel_rfl) (by kernel_rfl) (by kernel_rfl) (by first | exact fun _ _ _ h => h | exact fun _ _ _ h => HQ0.out _ _ _ _ h) (Or.inl ⟨by rfl, ?hy⟩) ?_
  case hy => (intro W; go_simp; (try with_reducible rfl))
  simp only [Act.put, List.getElem_toArray, List.getElem_cons_succ, List.getElem_cons_zero, List.setIfInBounds_toArray, List.set_cons_zero, List.set_cons_succ]
  refine wpI_take (i := 8) (v := ?_) rfl (by kernel_rfl) (by kernel_rfl) (by kernel_rfl) (by kernel_rfl) (by first | exact fun _ _ _ h => h | exact fun _ _ _ h => HQ0.out _ _ _ _ h) ⟨fun r hr => hM.get 0 hr, trivial⟩ (Or.inl ⟨by rfl, ?hy⟩) ?_
  case hy => (rintro W ⟨i0, -⟩; have c0 := (show At W _ _ _ from i0 _ rfl).cell; (try simp only [lisC] at c0); go_simp; (try with_reducible rfl))
  simp only [Act.put, List.getElem_toArray, List.getElem_cons_succ, List.getElem_cons_zero, List.setIfInBounds_toArray, List.set_cons_zero, List.set_cons_succ]
  refine wpI_takeP (i := 9) (v := ?_) rfl (by kernel_rfl) (by kernel_rfl) (by kernel_rfl) (by first | exact fun _ _ _ h => h | exact fun _ _ _ h => HQ0.out _ _ _ _ h) (Or.inl ⟨by rfl, ?hy⟩) ?_
  case hy => (intro W; go_simp; (try with_reducible rfl))
  simp only [Act.put, List.getElem_toArray, List.getElem_cons_succ, List.getElem_cons_zero, List.setIfInBounds_toArray, List.set_cons_zero, List.set_cons_succ]
  refine wpI_one (i := 4) rfl (by kernel_rfl) ?_
  go_wp2_with (first
      | (refine at_len_ ?_; refine wpList_len_m rfl _ rfl mapTy_lis.ht 1 hM rfl rfl ?_)
      | (refine at_box_ ?_; refine wpList_box_mem rfl _ _ rfl _ rfl hM ?_; clear hM; intro gb W hM; first | (simp only [List.nil_append] at hM) | (simp only [List.cons_append, List.nil_append] at hM)))
  refine contI_normal ⟨fun r hr => hM.get 0 hr, trivial⟩ ?_
  (try simp only [Act.put, List.getElem_toArray, List.getElem_cons_succ, List.getElem_cons_zero, List.setIfInBounds_toArray, List.set_cons_zero, List.set_cons_succ])
  refine wpI_takeP (i := 10) (v := ?_) rfl (by kernel_rfl) (by kernel_rfl) (by kernel_rfl) (by first | exact fun _ _ _ h => h | exact fun _ _ _ h => HQ0.out _ _ _ _ h) (Or.inl ⟨by rfl, ?hy⟩) ?_
  case hy => (intro W; go_simp; (try with_reducible rfl))
  simp only [Act.put, List.getElem_toArray, List.getElem_cons_succ, List.getElem_cons_zero, List.setIfInBounds_toArray, List.set_cons_zero, List.set_cons_succ]
  refine wpI_takeP (i := 11) (v := ?_) rfl (by kernel_rfl) (by kernel_rfl) (by kernel_rfl) (by first | exact fun _ _ _ h => h | exact fun _ _ _ h => HQ0.out _ _ _ _ h) (Or.inl ⟨by rfl, ?hy⟩) ?_
  case hy => (intro W; go_simp; (try with_reducible rfl))
  simp only [Act.put, List.getElem_toArray, List.getElem_cons_succ, List.getElem_cons_zero, List.setIfInBounds_toArray, List.set_cons_zero, List.set_cons_succ]
  refine wpI_done (by kernel_rfl) ?_ _
  (try simp only [Act.put, List.getElem_toArray, List.getElem_cons_succ, List.getElem_cons_zero, List.setIfInBounds_toArray, List.set_cons_zero, List.set_cons_succ])
  go_wp2_with fail
  go_ret2
  exact ⟨rfl, hM⟩
end Go.Proofs.Ytmcdmgnpbhkdhaa
