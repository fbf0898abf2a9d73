/- strings.SplitSeq: what its function does with whatever round it is handed. -/
import Derived.Test.YtamckbjckgpniaaDoorAdQ
import Derived.RangeFuncNested
import Derived.RangeFuncBound
import Derived.RangeFuncCalls
import Derived.RangeFuncLeaves
import Derived.RangeFuncBox
import Derived.Shelf.Abstract
import Derived.Shelf.RegionOpen
import Derived.OwnWalkIn
import Derived.TacticsInMore
import Derived.LoopNIn
import Derived.LoopIn
namespace Go.Proofs.YtamckbjckgpniaaDoor
open Go.RowKit Go.Lib Go.Shelf
set_option linter.unusedVariables false
set_option linter.unusedSimpArgs false
attribute [local go_sem] Oper.semAt_some

def dotS : ByteArray := ⟨#[46]⟩
/-- what a round keeps of the iterator's own cells -/
structure Kc (gs gp gv : Nat) (A B : World) : Prop where
  s : B.heap[gs]? = A.heap[gs]?
  p : B.heap[gp]? = A.heap[gp]?
  v : B.heap[gv]? = A.heap[gv]?
def strAt (W : World) (g : Nat) : Nat := match W.cell? ⟨g, 0, none⟩ with
  | some (.string r) => r.size
  | _ => 0
theorem ix_dot (s : ByteArray) (w : World) : Calls Tryd.prog 27 #[.string s, .string dotS] w fun e w' => e = .returned (.int .i64 (index s.data.toList [46])) ∧ w' = w := ix_any s 46 w
theorem strAt_is {W : World} {g : Nat} {t : TypeId} {r : ByteArray} (h : Boxed W g t (.string r)) : strAt W g = r.size := by
  unfold strAt; rw [h.cell]
set_option maxRecDepth 100000 in
set_option maxHeartbeats 4000000 in
theorem split_in (n l gs gp gv : Nat) (s : ByteArray) (J Jx : List ByteArray → World → Prop) (hn : 3 ≤ n) (hs : s.size ≤ 140737488355328)
    (hJ : ∀ pre A B, J pre A → A.grownBy B (some gs) → J pre B)
    (hY : ∀ pre x W, J pre W → x.size ≤ 140737488355328 → YieldAt Fence.wide (n - 1) Tryd.prog l #[.string x] W fun e W' => (e = .returned (.bool true) ∧ J (pre ++ [x]) W' ∧ Kc gs gp gv W W') ∨ (e = .returned (.bool false) ∧ Jx (pre ++ [x]) W'))
    (W : World) (h1 : Boxed W gs 9 (.string s)) (h2 : Boxed W gp 9 (.string dotS)) (h3 : Boxed W gv 3 (.int .i64 0)) (hps : gp ≠ gs) (hvs : gv ≠ gs) (h0 : J [] W) :
    CallsIn Fence.wide n Tryd.prog 25 #[.func (.yield l) #[] #[], .pointer (some ⟨gp, 0, none⟩), .pointer (some ⟨gs, 0, none⟩), .pointer (some ⟨gv, 0, none⟩)] W fun e W' =>
      (∃ v, e = .returned v) ∧ ((∃ xs, xs.map (·.data.toList) = pcs s.data.toList ∧ J xs W') ∨ ∃ pre, (∃ tl, pre.map (·.data.toList) ++ tl = pcs s.data.toList) ∧ Jx pre W') := by
  refine callsIn_of_wp Tryd.func25 rfl trivial ?_ rfl
  simp only [Tryd.ntmps25, List.size_toArray, List.length_cons, List.length_nil, Nat.reduceAdd, Nat.reduceSub, Array.replicate_succ, Array.replicate_zero, List.push_toArray, List.append_toArray, List.nil_append, List.cons_append]
  have c2 := h2.cell
  have hdz : dotS.size = 1 := rfl
  gi_wp2
  gi_loopw [7, 8] (fun a7 a8 wr => ∃ (pre : List ByteArray) (r : ByteArray), J pre wr ∧ Boxed wr gs 9 (.string r) ∧ Boxed wr gp 9 (.string dotS) ∧ Boxed wr gv 3 (.int .i64 0) ∧ r.size ≤ 140737488355328 ∧ pre.map (·.data.toList) ++ pcs r.data.toList = pcs s.data.toList)
    (fun a7 a8 wr => strAt wr gs)
  case atStart => exact ⟨[], s, h0, h1, h2, h3, hs, rfl⟩
  case round =>
    clear h0 h1 h2 h3 c2
    obtain ⟨pre, r, hj, b1, b2, b3, hr, hpc⟩ := hrel
    have c1 := b1.cell
    have c2 := b2.cell
    have c3 := b3.cell
    have hdz : dotS.size = 1 := rfl
    have hf27 : Fence.wide.fn 27 := trivial
    have hn1 : 1 ≤ n := by omega
    obtain ⟨z, hz⟩ : ∃ z, z = index r.data.toList [46] := ⟨_, rfl⟩
    have hge := index_ge r.data.toList [46]
    rw [← hz] at hge
    have hid := ix_dot r wr
    rw [← hz] at hid
    have HZ := Lib.hid hz
    have HPC := Lib.hid hpc
    clear hz hpc
    by_cases h : z = -1
    · subst h
      have hp1 := Lib.hid (pcs_none HZ.out.symm)
      obtain ⟨fn, tmps, assign, body, hy, hR⟩ := hY pre r wr hj hr
      gi_wp2_with (gi_at_call 27; refine (callsIn_wide.2 hid).mono ?_; rintro e w' ⟨rfl, rfl⟩)
      refine hR.mono ?_
      rintro e W3 (⟨rfl, hJ3, hk3⟩ | ⟨rfl, hJx3⟩)
      · gi_wp2
        go_end0
        refine ⟨⟨_, rfl⟩, .inl ⟨pre ++ [r], ?_, hJ3⟩⟩
        rw [← HPC.out, hp1.out]; simp
      · gi_wp2
        go_end0
        refine ⟨⟨_, rfl⟩, .inr ⟨pre ++ [r], ⟨[], ?_⟩, hJx3⟩⟩
        rw [← HPC.out, hp1.out]; simp
    · obtain ⟨m, rfl⟩ := Int.eq_ofNat_of_zero_le (show 0 ≤ z by omega)
      have hlt := ix_lt HZ.out.symm
      rw [ba_len] at hlt
      have hps2 := Lib.hid (pcs_some HZ.out.symm).1
      have hml : m ≤ r.size := by omega
      have hm1 : m + 1 ≤ r.size := by omega
      have t1 : decide ((m : Int) < 0) = false := decide_eq_false (by omega)
      clear hge h
      obtain ⟨fn, tmps, assign, body, hy, hR⟩ := hY pre (r.extract 0 m) wr hj (by rw [ByteArray.size_extract]; omega)
      gi_wp2_with (gi_at_call 27; refine (callsIn_wide.2 hid).mono ?_; rintro e w' ⟨rfl, rfl⟩)
      refine hR.mono ?_
      rintro e W3 (⟨rfl, hJ3, hk3⟩ | ⟨rfl, hJx3⟩)
      · have d1 : Boxed W3 gs 9 (.string r) := hk3.s.trans b1
        have d2 : Boxed W3 gp 9 (.string dotS) := hk3.p.trans b2
        have d3 : Boxed W3 gv 3 (.int .i64 0) := hk3.v.trans b3
        have e1 := d1.cell
        have e2 := d2.cell
        have f1 := d1.frozen
        have hB := d1.set (.string (r.extract (m + 1) r.size))
        clear c1 c2 c3
        gi_wp2
        go_roundw
        case rel =>
          refine ⟨pre ++ [r.extract 0 m], r.extract (m + 1) r.size, hJ _ _ _ hJ3 (grownBy_setCell' _ _ _), hB, ?_, ?_, ?_, ?_⟩
          · exact (Below.heap_setCell W3 ⟨gs, 0, none⟩ _ gp hps).trans d2
          · exact (Below.heap_setCell W3 ⟨gs, 0, none⟩ _ gv hvs).trans d3
          · rw [ByteArray.size_extract]; omega
          · rw [← HPC.out, hps2.out, List.map_append, List.append_assoc]
            congr 1
            simp only [List.map_cons, List.map_nil, List.singleton_append]
            rw [ext_list, ext_list]
            congr 1
            rw [List.take_of_length_le (by rw [List.length_drop, ba_len]; exact Nat.le_refl _)]
        case measure =>
          rw [strAt_is hB, strAt_is b1, ByteArray.size_extract]; omega
      · gi_wp2
        refine bodyPost_ret (results_none rfl _ _ _) rfl ?_
        refine ⟨⟨_, rfl⟩, .inr ⟨pre ++ [r.extract 0 m], ⟨pcs (r.data.toList.drop (m + 1)), ?_⟩, hJx3⟩⟩
        rw [← HPC.out, hps2.out, List.map_append, List.append_assoc]
        congr 1
        simp only [List.map_cons, List.map_nil, List.singleton_append]
        rw [ext_list]
        rfl
end Go.Proofs.YtamckbjckgpniaaDoor
