/- What ConnStops needs, a part: OutqW. -/
import Derived.StillTailTactics
import Derived.Test.YtfpifahkpkjfgaaMConnStops4
namespace Go.Proofs.Ytfpifahkpkjfgaa
open Go.RowKit Go.Lib
set_option linter.unusedVariables false
section
variable {P : Program} {ops : Array Oper} {a : Act} {w : World} {Q : Exit → Act → World → Prop} {K : Act → World → Prop}
theorem wpOp_append {i : Nat} {o : Oper} (hi : ops[i]? = some o) (hw : Region.wanted o (yielded ops a.tmps) = true) (s x : Operand) (t u : TypeId) (ho : o.op = .call { callee := .builtin .append, args := #[s, x], argTypes := #[t, u] })
  (v vx : Value) (hs : a.eval s = v) (hx : a.eval x = vx) (v' : Value) (w' : World) (hr : (Builtin.append_ #[t, u] o.type #[v, vx]).run P w = .ok v' w') (h : K (a.put o.dst v') w') : wpOp P ops Q i K a w := by
 unfold wpOp
 rw [hi]
 simp only [hw, if_true]
 left
 unfold Oper.wp execOp
 simp only [ho, resolve, invoke, builtin, Sem.run_bind, Sem.run_pure, Result.andThen_ok, List.map_toArray, List.map_cons, List.map_nil, hs, hx, hr]
 exact h
theorem wpOp_val {i : Nat} {o : Oper} (hi : ops[i]? = some o) (hw : Region.wanted o (yielded ops a.tmps) = true) (v : Value) (hr : (execOp a.eval o).run P w = .ok (.value v) w) (h : K (a.put o.dst v) w) : wpOp P ops Q i K a w := by
 unfold wpOp
 rw [hi]
 simp only [hw, if_true]
 left
 unfold Oper.wp
 rw [hr]
 exact h
theorem wpOp_store1 {i : Nat} {o : Oper} (hi : ops[i]? = some o) (hw : Region.wanted o (yielded ops a.tmps) = true) (T : TypeId) (x y : Operand) (ho : o.op = .store T x y) (g j : Nat) (v : Value) (hx : a.eval x = .pointer (some ⟨g, j, none⟩)) (hy : a.eval y = v) (hv : v.cells = [v].toArray) (h1 : v.oneCell' = true)
  (hsz : (P.info? T).map (·.size) = some 1) (hc : (w.cell? ⟨g, j, none⟩).isSome = true) (hf : w.frozen? ⟨g, j, none⟩ = false) (h : K (a.put o.dst undef) (w.setCell ⟨g, j, none⟩ v)) : wpOp P ops Q i K a w := by
 have ht : w.there g j [v].length := fun k hk => by
  have : k = 0 := by simpa using hk
  subst this
  exact ⟨hc, hf⟩
 unfold wpOp
 rw [hi]
 simp only [hw, if_true]
 left
 unfold Oper.wp execOp
 simp only [ho, hx, hy, Instr.storeAt, Instr.sureAddr, Sem.run_bind, Sem.run_pure, Result.andThen_ok, run_storeVar_off w g j T v [v] hv ht hsz (by simp [h1])]
 exact h
end
abbrev OPre (w w' : World) (g : Nat) (v : Value) (q' : OQ) (v' : Value) : Prop := MemX (oqE g v) w w' [oqA g q' v', oqB q' v']
set_option maxRecDepth 100000 in
theorem Back_any (g : Nat) (q : OQ) (v : Value) (w : World) (hM : OPre w w g v q v) :
  Calls Try.prog 71 #[.pointer (some ⟨g, 0, none⟩)] w fun e w' => e = .returned (.tuple #[]) ∧ OPre w w' g v { q with cur := q.una } v := by
 go_enter Try.func71, Try.ntmps71
 go_wp2_with (first
  | go_skip
  | ((with_reducible refine at_box_ ?_); refine wpList_box_mem rfl _ _ rfl _ rfl hM ?_; clear hM; intro gb W hM; first | (simp only [List.nil_append] at hM) | (simp only [List.cons_append, List.nil_append] at hM))
  | ((with_reducible refine at_load_ ?_); refine at_wanted_ (by rfl) ?_; refine lM 0 hM rfl rfl rfl (by first | rfl | assumption) ?_)
  | ((with_reducible refine at_store_ ?_); refine sM 0 hM rfl rfl rfl ?_; clear hM; intro W hM; simp only [oqA, oqB, oqC, zF, zE] at hM))
 go_end0
 exact ⟨rfl, hM⟩
set_option maxRecDepth 100000 in
set_option maxHeartbeats 1000000 in
theorem Write_any (g : Nat) (q : OQ) (v : Value) (s : ByteArray) (w : World) (hM : OPre w w g v q v) (ok : OqOk q) (hs : s.size ≤ 140737488351232) :
  Calls Try.prog 52 #[.pointer (some ⟨g, 0, none⟩), .string s] w fun e w' => ∃ v', e = .returned (.int .i64 (oN q s.size)) ∧ OPre w w' g v (oWrite q s) v' := by
 have hA := hM.at_ 0 rfl
 have hV := hM.own 1 rfl
 have hl := ok.len
 have HR := Lib.hid (Room_any g q v w hA hV hl)
 have hn := oN_le ok s.size
 have hrb := oRoom_bd ok
 have hmin : (if oRoom q < (s.size : Int) then oRoom q else (s.size : Int)) = (oN q s.size : Int) := by unfold oN; split <;> omega
 have HQ : oWrite q s = { q with l := q.l ++ sI (s.extract 0 (oN q s.size)) } := rfl
 generalize oRoom q = rm at *
 generalize oN q s.size = n at *
 have b1 : (0 : Int) ≤ (n : Int) := by omega
 have b2 : (n : Int) ≤ (s.size : Int) := by omega
 have b3 : n ≤ s.size := by omega
 have hsz : (s.extract 0 n).size = n := by rw [ByteArray.size_extract]; omega
 have hsb : q.l.length + (s.extract 0 n).size ≤ 140737488350000 := by omega
 have c0 := hA.cell
 simp only [oqC] at c0
 have HSB := Lib.hid hsb
 clear hV hA hn hsz ok hl hsb
 go_enter Try.func52, Try.ntmps52
 go_upto_region 2 with (go_at_call 56; go_must (refine HR.out.mono ?_; rintro e W ⟨rfl, rfl⟩))
 refine wp_region_any (by kernel_rfl) ?_
 change wpAny _ _ _ _ _ _ _ w.drew
 have hMd : OPre w w.drew g v q v := hM.kept (Below.refl _ _).drew
 generalize w.drew = w5 at hMd ⊢
 clear hM
 have hM := hMd
 clear hMd c0
 have c0 := hM.cells 0 rfl 0
 simp only [oqC, List.getElem?_cons_zero] at c0
 refine wpAny_take (i := 0) (v := ?_) rfl (by kernel_rfl) (by kernel_rfl) (by kernel_rfl) (fun _ _ _ h => h) (Or.inl ⟨by rfl, ?hy⟩) ?_
 case hy => (intro w; go_simp; (try with_reducible rfl))
 simp only [Act.put, zA, zC, zD, zE, zF]
 refine wpAny_take (i := 1) (v := ?_) rfl (by kernel_rfl) (by kernel_rfl) (by kernel_rfl) (fun _ _ _ h => h) (Or.inl ⟨by rfl, ?hy⟩) ?_
 case hy => (intro w; go_simp; (try with_reducible rfl))
 simp only [zz]
 refine wpAny_take (i := 5) (v := ?_) rfl (by kernel_rfl) (by kernel_rfl) (by kernel_rfl) (fun _ _ _ h => h) (Or.inl ⟨by rfl, ?hy⟩) ?_
 case hy => (intro w; go_simp; (try with_reducible rfl))
 simp only [zz]
 refine wpAny_take (i := 6) (v := ?_) rfl (by kernel_rfl) (by kernel_rfl) (by kernel_rfl) (fun _ _ _ h => h) (Or.inl ⟨by rfl, ?hy⟩) ?_
 case hy => (intro w; go_simp; (try with_reducible rfl))
 simp only [zz]
 refine wpAny_take (i := 2) (v := ?_) rfl (by kernel_rfl) (by kernel_rfl) (by kernel_rfl) (fun _ _ _ h => h) (Or.inl ⟨by rfl, ?hy⟩) ?_
 case hy => (intro w; go_simp; (try with_reducible rfl))
 simp only [zz]
 refine wpAny_take (i := 3) (v := ?_) rfl (by kernel_rfl) (by kernel_rfl) (by kernel_rfl) (fun _ _ _ h => h) (Or.inl ⟨by rfl, ?hy⟩) ?_
 case hy => (intro w; go_simp; (try with_reducible rfl))
 simp only [zz]
 refine wpAny_take (i := 7) (v := ?_) rfl (by kernel_rfl) (by kernel_rfl) (by kernel_rfl) (fun _ _ _ h => h) (Or.inl ⟨by rfl, ?hy⟩) ?_
 case hy => (intro w; go_simp; (try with_reducible rfl))
 simp only [zz]
 refine wpAny_all (rs := [4]) (by kernel_rfl) (by decide) (fun i hi => ?_)
 obtain rfl := List.mem_singleton.1 hi
 clear hi
 refine wpOp_val (i := 4) rfl (by rfl) v (by go_simp) ?_
 simp only [zz]
 refine wpAny_all (rs := [8]) (by kernel_rfl) (by decide) (fun i hi => ?_)
 obtain rfl := List.mem_singleton.1 hi
 clear hi
 obtain ⟨iE, i1, i2, i3, i4⟩ := elem_u8s
 obtain ⟨v1, w6, hr, hV1, hO1, hat1⟩ := run_append_win_str (P := Try.prog) w5 0 104 9 104 5 iE Try.underlying104 Try.underlying9 i1 i2 i3 i4 v q.l.length (q.l.map b8) (hM.own 1 rfl) (s.extract 0 n) (by have := HSB.out; simp only [maxLen]; omega) (by have := HSB.out; omega) (Nat.zero_le _)
 have hV2 : OwnB w6 0 v1 (q.l ++ sI (s.extract 0 n)) := by
  unfold OwnB
  rw [List.length_append, List.map_append, sI_len, sI_cells]
  exact hV1
 replace hM := hM.ownPut 1 rfl hV2 hO1 hat1
 obtain ⟨A1, cc, rfl⟩ := hV2.form
 clear hV1 hV2 hO1 hat1
 simp only [zF, zE] at hM
 refine wpOp_append (i := 8) rfl (by rfl) _ _ _ _ rfl v (.string (s.extract 0 n)) rfl rfl _ _ hr ?_
 simp only [zz]
 refine wpAny_take (i := 9) (v := ?_) rfl (by kernel_rfl) (by kernel_rfl) (by kernel_rfl) (fun _ _ _ h => h) (Or.inl ⟨by rfl, ?hy⟩) ?_
 case hy => (intro w; go_simp; (try with_reducible rfl))
 simp only [zz]
 refine wpAny_take (i := 10) (v := ?_) rfl (by kernel_rfl) (by kernel_rfl) (by kernel_rfl) (fun _ _ _ h => h) (Or.inl ⟨by rfl, ?hy⟩) ?_
 case hy => (intro w; go_simp; (try with_reducible rfl))
 simp only [zz]
 refine wpAny_all (rs := [11]) (by kernel_rfl) (by decide) (fun i hi => ?_)
 obtain rfl := List.mem_singleton.1 hi
 clear hi
 refine wpOp_store1 (i := 11) rfl (by rfl) _ _ _ rfl g 0 (.slice A1 (q.l ++ sI (s.extract 0 n)).length cc) rfl rfl rfl rfl (by kernel_rfl) (by rw [hM.cells 0 rfl]; rfl) (hM.free 0 rfl 0) ?_
 replace hM := hM.atPut 0 rfl (only_set (only_refl _ _) (.inl rfl) _) ((hM.at_ 0 rfl).set_ 0 (.slice A1 (q.l ++ sI (s.extract 0 n)).length cc))
 generalize w6.setCell _ _ = w7 at hM ⊢
 refine wpAny_done (by kernel_rfl) ?_ _
 simp only [Act.put, zA, zB, zC]
 go_wp2_with fail
 go_ret
 refine ⟨.slice A1 (q.l ++ sI (s.extract 0 n)).length cc, rfl, ?_⟩
 rw [HQ]
 exact hM
end Go.Proofs.Ytfpifahkpkjfgaa
