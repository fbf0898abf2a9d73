/- poll.Poller: Wait. Written by my genpo3.py. -/
import Derived.Test.YtgdfjkdcdfmifaaPolB
import Derived.Deep.CutBlock
namespace Go.Proofs.Ytgdfjkdcdfmifaa
open Go.RowKit Go.Lib
set_option linter.unusedVariables false
set_option linter.unusedSimpArgs false

structure KWake where
  fd : Int
  mask : Int
def cWake (x : KWake) : List Value := [.int .i64 x.fd, .int .i64 x.mask]
def tellB (x : KW) : Bool := !(bAnd x.ready x.mask == 0) && (!x.edge || x.fresh)
def outW (x : KW) : KWake := ⟨x.fd, bAnd x.ready x.mask⟩
def toldW (x : KW) : KW := { x with fresh := false }
/-- what Wait has in hand: what is told, whose it is, the rest -/
structure WSt where
  o : List KWake
  t : List KW
  r : List KW
def wStep (most : Int) (s : WSt) (x : KW) : WSt := if (tellB x && !((s.o.length : Int) == most)) = true then ⟨s.o ++ [outW x], s.t ++ [toldW x], s.r⟩ else ⟨s.o, s.t, s.r ++ [x]⟩
def wFold (most : Int) (ws : List KW) : WSt := ws.foldl (wStep most) ⟨[], [], []⟩
def wOut (most : Int) (ws : List KW) : List KWake := (wFold most ws).o
def wRow (most : Int) (ws : List KW) : List KW := (wFold most ws).r ++ (wFold most ws).t
theorem wFold_take (most : Int) (ws : List KW) (k : Nat) (x : KW) (h : ws[k]? = some x) : wFold most (ws.take (k + 1)) = wStep most (wFold most (ws.take k)) x := by
  unfold wFold
  rw [List.take_add_one, h, Option.toList_some, List.foldl_append]; rfl
theorem wStep_len (most : Int) (s : WSt) (x : KW) : (wStep most s x).o.length = (wStep most s x).t.length - s.t.length + s.o.length ∧ (wStep most s x).t.length + (wStep most s x).r.length = s.t.length + s.r.length + 1 ∧ s.t.length ≤ (wStep most s x).t.length := by
  unfold wStep
  split <;> simp <;> omega
/-- what holds of what lies in memory when k of them have been looked at -/
structure WRel (most : Int) (ws cur : List KW) (k : Nat) (s : WSt) : Prop where
  st : s = wFold most (ws.take k)
  len : cur.length = ws.length
  ahead : ∀ i, k ≤ i → cur[i]? = ws[i]?
  perm : (cur.take k).Perm (s.r ++ s.t)
  ln : s.o.length ≤ k ∧ s.t.length ≤ k ∧ s.r.length ≤ k
theorem wrel_start (most : Int) (ws : List KW) : WRel most ws ws 0 ⟨[], [], []⟩ := ⟨by simp [wFold], rfl, fun _ _ => rfl, by simp, by simp⟩
theorem wrel_rest {most : Int} {ws cur : List KW} {k : Nat} {s : WSt} {x : KW} (h : WRel most ws cur k s) (hx : ws[k]? = some x) (hn : (tellB x && !((s.o.length : Int) == most)) = false) : WRel most ws cur (k + 1) ⟨s.o, s.t, s.r ++ [x]⟩ := by
  obtain ⟨h1, h2, h3, h4, h5⟩ := h
  refine ⟨?_, h2, fun i hi => h3 i (by omega), ?_, ?_⟩
  · rw [wFold_take most ws k x hx, ← h1]
    unfold wStep
    rw [if_neg (by rw [hn]; simp)]
  · rw [List.take_add_one, h3 k (Nat.le_refl _), hx, Option.toList_some]
    refine (h4.append_right [x]).trans ?_
    rw [List.append_assoc, List.append_assoc]
    exact List.Perm.append_left _ List.perm_append_comm
  · simp; omega
theorem wrel_tell {most : Int} {ws cur : List KW} {k : Nat} {s : WSt} {x : KW} (h : WRel most ws cur k s) (hx : ws[k]? = some x) (hn : (tellB x && !((s.o.length : Int) == most)) = true) : WRel most ws (cur.set k (toldW x)) (k + 1) ⟨s.o ++ [outW x], s.t ++ [toldW x], s.r⟩ := by
  obtain ⟨h1, h2, h3, h4, h5⟩ := h
  have hk := (List.getElem?_eq_some_iff.1 hx).1
  refine ⟨?_, by rw [List.length_set, h2], fun i hi => ?_, ?_, ?_⟩
  · rw [wFold_take most ws k x hx, ← h1]
    unfold wStep
    rw [if_pos hn]
  · rw [List.getElem?_set_ne (by omega)]; exact h3 i (by omega)
  · rw [List.take_add_one, List.getElem?_set_self (by omega), Option.toList_some, List.take_set_of_le (Nat.le_refl _)]
    refine (h4.append_right [toldW x]).trans ?_
    rw [List.append_assoc]
  · simp; omega
theorem yields_and {P : Program} {ops : Array Oper} {o : Oper} {a : Act} (hw : Region.wanted o (yielded ops a.tmps) = true) (T : TypeId) (x y : Operand) (R : TypeId) (ho : o.op = .binOp .and T x y R) (X Y : Int) (hx : a.eval x = .int .i64 X) (hy : a.eval y = .int .i64 Y) : Yields P ops o (.int .i64 (bAnd X Y)) a :=
  .inl ⟨hw, fun w => exec_and T x y R ho X Y hx hy w⟩
abbrev wtL (ov tv rv : Value) (s : WSt) : List Res := [rowR 2 cWake ov s.o, plW tv s.t, plW rv s.r]
theorem get_last (l : List Res) (A : Res) : (l ++ [A])[l.length]? = some A := by simp
/-- the thing i stands first -/
theorem front_perm {l : List Res} {i : Nat} {r : Res} (h : l[i]? = some r) : l.Perm (r :: l.eraseIdx i) := by
  obtain ⟨hi, rfl⟩ := List.getElem?_eq_some_iff.1 h
  have h3 : l.take i ++ l[i] :: l.drop (i + 1) = l := by rw [← List.drop_eq_getElem_cons hi, List.take_append_drop]
  rw [List.eraseIdx_eq_take_drop_succ]
  conv => lhs; rw [← h3]
  exact List.perm_middle
theorem swap_perm (a b : List Res) : (a ++ b).Perm (b ++ a) := List.perm_append_comm
theorem run_append_nil {P : Program} (w : World) (t e ty : TypeId) (i : TypeInfo) (ht : P.underlying t = some (.slice e)) (hi : P.info? e = some i) (A : Option Addr) (n c : Nat) (hn : n ≤ c) : (Builtin.append_ #[t, t] ty #[.slice A n c, .slice none 0 0]).run P w = .ok (.slice A n c) w := by
  cases A <;> simp [Builtin.append_, run_underlying ht, sizeOf, typeInfo, hi, Builtin.lenOf, Builtin.firstCells, hn, storeCells]

theorem one_cWake (d : KWake) : ∀ u ∈ cWake d, u.oneCell' = true := by
  intro u hu
  simp only [cWake, List.mem_cons, List.not_mem_nil, or_false] at hu
  rcases hu with rfl | rfl <;> rfl
theorem wt_last {E : Nat → Prop} {w0 W : World} {l : List Res} {A : Res} (h : MemX E w0 W (l ++ [A])) : MemX E w0 W l := by
  have := h.take_ l.length
  rwa [List.take_left] at this
theorem wpList_append_rows {E : Nat → Prop} {P : Program} {ops : Array Oper} {rest : List Oper} {op : Oper} {a : Act} {w0 w : World} {Q : Exit → Act → World → Prop} {l : List Res} {α : Type} {f : α → List Value} {size : Nat} (hgd : op.guard = none) (s x : Operand) (t e : TypeId) (ho : op.op = .call { callee := .builtin .append, args := #[s, x], argTypes := #[t, t] }) (ht : P.underlying t = some (.slice e))
    (bytes : Nat) (he : (P.info? e).map (fun i => (i.size, i.bytes, i.zero.map (·.cells.size))) = some (size, bytes, some size)) (hsz : 0 < size)
    (k j : Nat) (v v2 : Value) (rs rs2 : List α) (hM : MemX E w0 w l) (hk : l[k]? = some (rowR size f v rs)) (hj : l[j]? = some (rowR size f v2 rs2)) (hs : a.eval s = v) (hx : a.eval x = v2) (hn : 0 < rs2.length)
    (h1 : ∀ r, ∀ u ∈ f r, u.oneCell' = true) (hb : (rs.length + rs2.length) * bytes ≤ 140737488355328) (hb2 : rs.length + rs2.length ≤ maxLen)
    (h : ∀ v' W, MemX E w0 W (l.set k (rowR size f v' (rs ++ rs2))) → wpList P ops Q rest (a.put op.dst v') W) : wpList P ops Q (op :: rest) a w := by
  obtain ⟨i, z, i0, i1, i2, i3, i4⟩ := elem_of he
  have hV : Win w 0 size v rs.length (rs.flatMap f) := hM.row k hk
  have hV2 : Win w 0 size v2 rs2.length (rs2.flatMap f) := hM.row j hj
  obtain ⟨g, off, cap, rfl, hWA⟩ := hV2.pos hn
  refine wpList_append_win hgd s x t ho 0 e i z size bytes ht i0 i1 i2 i3 i4 hsz v rs.length _ hs hV ⟨g, off, none⟩ rs2.length cap (rs2.flatMap f) hx hV2.1 (fun q u hq => by rw [Addr.add_mid]; exact hWA.here q u hq) (fun u hu => by
    obtain ⟨r, _, hu⟩ := List.mem_flatMap.1 hu
    exact h1 r u hu) hn hb2 hb (Nat.zero_le _) ?_
  intro v' W hV' hO hat
  refine h v' W (hM.upd k hk hO (winR_stab _ _ _ _ _) (by
    show Win W 0 size v' (rs ++ rs2).length ((rs ++ rs2).flatMap f)
    rw [List.length_append, List.flatMap_append]
    exact hV') (fun j' hj' => ⟨?_, (hV'.lt j' hj').2⟩))
  have hj2 : v'.ownBlock = some j' := hj'
  rcases hat with e1 | ⟨m, e1, hm⟩
  · left; show v.ownBlock = some j'; rw [← e1]; exact hj2
  · right; rw [e1] at hj2; cases hj2; exact hm
theorem wt_final {E : Nat → Prop} {w0 W : World} {g : Nat} {v' : Value} {cur z : List KW} {R T Y : Res} (h : MemX E w0 W (R :: T :: plW v' z :: plA g v' :: Y :: cur.map wR)) (hp : cur.Perm z) : MemX E w0 W (pollL g v' z ++ [R]) := by
  have h1 : (R :: T :: plW v' z :: plA g v' :: Y :: cur.map wR).Perm (z.map wR ++ [R, T, plW v' z, plA g v', Y]) :=
    (List.perm_append_comm (l₁ := [R, T, plW v' z, plA g v', Y]) (l₂ := cur.map wR)).trans ((hp.map wR).append_right _)
  have h2 : ([R, T, plW v' z, plA g v', Y] : List Res).Perm [R, T, Y, plA g v', plW v' z] := ((List.reverse_perm [Y, plA g v', plW v' z]).cons T).cons R
  have h3 : (z.map wR ++ [R, T, Y, plA g v', plW v' z]).Perm (pollL g v' z ++ ([R] ++ [T, Y])) := by
    have e1 : z.map wR ++ [R, T, Y, plA g v', plW v' z] = (z.map wR ++ [R, T, Y]) ++ [plA g v', plW v' z] := by simp
    rw [e1]
    refine (List.perm_append_comm (l₁ := z.map wR ++ [R, T, Y]) (l₂ := [plA g v', plW v' z])).trans ?_
    unfold pollL
    simp
  have h4 := h.perm (h1.trans ((h2.append_left _).trans h3))
  rw [← List.append_assoc] at h4
  have := h4.take_ (pollL g v' z ++ [R]).length
  rwa [List.take_left] at this
set_option maxRecDepth 100000 in
set_option maxHeartbeats 8000000 in
theorem Wait_any (g : Nat) (v : Value) (ws : List KW) (most : Int) (w : World) (hM0 : PlPre w w g v ws v ws) (hn : ws.length ≤ 100000) (hm : 1 ≤ most) (hm' : most ≤ 9223372036854775807) :
    Calls Try.prog 43 #[.pointer (some ⟨g, 0, none⟩), .int .i64 most] w fun e w' => ∃ v' ov, e = .returned (.tuple #[ov, .int .i64 0]) ∧ MemX (blkE (pollL g v ws)) w w' (pollL g v' (wRow most ws) ++ [rowR 2 cWake ov (wOut most ws)]) := by
  have hM : MemX (blkE (pollL g v ws)) w w (wtL (.slice none 0 0) (.slice none 0 0) (.slice none 0 0) ⟨[], [], []⟩ ++ pollL g v ws) := by
    have h1 := ((hM0.rowNil 2 cWake).rowNil 1 fPtr).rowNil 1 fPtr
    rw [List.append_assoc, List.append_assoc] at h1
    exact h1.perm (swap_perm _ _)
  obtain ⟨A, cap, rfl⟩ := (show Win w 0 1 v ws.length (ws.flatMap fPtr) from hM0.row (f := fPtr) (rs := ws) 1 rfl).form
  have hm1 : (most < 1) = False := eq_false (by omega)
  clear hM0
  have c0 := hM.cells 3 rfl
  have l0 := hM.lt 3 rfl
  go_enter Try.func43, Try.ntmps43
  go_upto_region 6 with (fail)
  clear c0 l0
  go_loopg [19, 6, 7, 8] ws.length (fun gh i o_ t_ r_ wr => ∃ (k : Nat) (cur : List KW) (s : WSt) (ov tv rv : Value), gh = ws.length - k ∧ k ≤ ws.length ∧ i = .int .i64 k ∧ ov = o_ ∧ tv = t_ ∧ rv = r_ ∧ MemX (blkE (pollL g (.slice A ws.length cap) ws)) w wr (wtL ov tv rv s ++ pollL g (.slice A ws.length cap) cur) ∧ Hid (WRel most ws cur k s) ∧ Hid (s.t = [] → tv = .slice none 0 0))
  case atStart => exact ⟨0, ws, ⟨[], [], []⟩, _, _, _, by omega, by omega, rfl, rfl, rfl, rfl, hM, Lib.hid (wrel_start most ws), Lib.hid (fun _ => rfl)⟩
  case round =>
    clear hM
    obtain ⟨k, cur, s, ov, tv, rv, hgk, hk, rfl, rfl, rfl, rfl, hM, HR, HT⟩ := hrel
    have HGK := Lib.hid hgk
    clear hgk
    by_cases hlt : k < ws.length
    · obtain ⟨x, hx⟩ : ∃ x, ws[k]? = some x := ⟨ws[k], List.getElem?_eq_getElem hlt⟩
      have HX := Lib.hid hx
      have HC := Lib.hid ((HR.out.ahead k (Nat.le_refl _)).trans hx)
      clear hx
      obtain ⟨O, oc, rfl⟩ := (show Win wr 0 2 ov s.o.length (s.o.flatMap cWake) from hM.row (f := cWake) (rs := s.o) 0 rfl).form
      obtain ⟨gx, fx, mx, rx, ex, frx⟩ := x
      have hM2 := hM.perm (swap_perm _ _)
      obtain ⟨gr, off, cap', hv, hcell, hgr⟩ := poll_ptr hM2 HC.out
      rw [HR.out.len] at hv
      injection hv with hv1 _ hv2
      subst hv1 hv2
      clear hM2
      go_upto_region 8 with (fail)
      clear hcell
      have hp := (swap_perm (wtL (.slice O s.o.length oc) tv rv s) (pollL g (.slice (some ⟨gr, off, none⟩) ws.length cap) cur)).trans (front_perm (app_at (m := wtL (.slice O s.o.length oc) tv rv s) (poll_at (g := g) (v := .slice (some ⟨gr, off, none⟩) ws.length cap) HC.out)))
      replace hM := hM.perm hp
      have HP := Lib.hid hp
      clear hp
      refine wp_region_M [0] [] hM (by kernel_rfl) ?_
      clear hM
      intro wo hM
      refine wpI_takeP (i := 0) (v := ?_) rfl (by kernel_rfl) (by kernel_rfl) (by kernel_rfl) (by first | exact fun _ _ _ h => h | exact fun _ _ _ h => HQ0.out _ _ _ _ _ h) (Or.inl ⟨by rfl, ?hy⟩) ?_
      case hy => (intro W; go_simp; (try with_reducible rfl))
      simp only [Act.put, List.getElem_toArray, List.getElem_cons_succ, List.getElem_cons_zero, List.setIfInBounds_toArray, List.set_cons_zero, List.set_cons_succ]
      refine wpI_takeP (i := 1) (v := ?_) rfl (by kernel_rfl) (by kernel_rfl) (by kernel_rfl) (by first | exact fun _ _ _ h => h | exact fun _ _ _ h => HQ0.out _ _ _ _ _ h) (Or.inl ⟨by rfl, ?hy⟩) ?_
      case hy => (intro W; go_simp; (try with_reducible rfl))
      simp only [Act.put, List.getElem_toArray, List.getElem_cons_succ, List.getElem_cons_zero, List.setIfInBounds_toArray, List.set_cons_zero, List.set_cons_succ]
      refine wpI_takeP (i := 2) (v := ?_) rfl (by kernel_rfl) (by kernel_rfl) (by kernel_rfl) (by first | exact fun _ _ _ h => h | exact fun _ _ _ h => HQ0.out _ _ _ _ _ h) (Or.inl ⟨by rfl, ?hy⟩) ?_
      case hy => (intro W; go_simp; (try with_reducible rfl))
      simp only [Act.put, List.getElem_toArray, List.getElem_cons_succ, List.getElem_cons_zero, List.setIfInBounds_toArray, List.set_cons_zero, List.set_cons_succ]
      refine wpI_take (i := 3) (v := ?_) rfl (by kernel_rfl) (by kernel_rfl) (by kernel_rfl) (by kernel_rfl) (by first | exact fun _ _ _ h => h | exact fun _ _ _ h => HQ0.out _ _ _ _ _ h) ⟨fun r hr => hM.get 0 hr, trivial⟩ (Or.inl ⟨by rfl, ?hy⟩) ?_
      case hy => (rintro W ⟨i0, -⟩; have c0 := (show At W _ _ _ from i0 _ rfl).cell; (try simp only [cW] at c0); go_simp; (try with_reducible rfl))
      simp only [Act.put, List.getElem_toArray, List.getElem_cons_succ, List.getElem_cons_zero, List.setIfInBounds_toArray, List.set_cons_zero, List.set_cons_succ]
      refine wpI_takeP (i := 4) (v := ?_) rfl (by kernel_rfl) (by kernel_rfl) (by kernel_rfl) (by first | exact fun _ _ _ h => h | exact fun _ _ _ h => HQ0.out _ _ _ _ _ h) (Or.inl ⟨by rfl, ?hy⟩) ?_
      case hy => (intro W; go_simp; (try with_reducible rfl))
      simp only [Act.put, List.getElem_toArray, List.getElem_cons_succ, List.getElem_cons_zero, List.setIfInBounds_toArray, List.set_cons_zero, List.set_cons_succ]
      refine wpI_takeP (i := 5) (v := ?_) rfl (by kernel_rfl) (by kernel_rfl) (by kernel_rfl) (by first | exact fun _ _ _ h => h | exact fun _ _ _ h => HQ0.out _ _ _ _ _ h) (Or.inl ⟨by rfl, ?hy⟩) ?_
      case hy => (intro W; go_simp; (try with_reducible rfl))
      simp only [Act.put, List.getElem_toArray, List.getElem_cons_succ, List.getElem_cons_zero, List.setIfInBounds_toArray, List.set_cons_zero, List.set_cons_succ]
      refine wpI_takeP (i := 6) (v := ?_) rfl (by kernel_rfl) (by kernel_rfl) (by kernel_rfl) (by first | exact fun _ _ _ h => h | exact fun _ _ _ h => HQ0.out _ _ _ _ _ h) (Or.inl ⟨by rfl, ?hy⟩) ?_
      case hy => (intro W; go_simp; (try with_reducible rfl))
      simp only [Act.put, List.getElem_toArray, List.getElem_cons_succ, List.getElem_cons_zero, List.setIfInBounds_toArray, List.set_cons_zero, List.set_cons_succ]
      refine wpI_take (i := 7) (v := ?_) rfl (by kernel_rfl) (by kernel_rfl) (by kernel_rfl) (by kernel_rfl) (by first | exact fun _ _ _ h => h | exact fun _ _ _ h => HQ0.out _ _ _ _ _ h) ⟨fun r hr => hM.get 0 hr, trivial⟩ (Or.inl ⟨by rfl, ?hy⟩) ?_
      case hy => (rintro W ⟨i0, -⟩; have c0 := (show At W _ _ _ from i0 _ rfl).cell; (try simp only [cW] at c0); go_simp; (try with_reducible rfl))
      simp only [Act.put, List.getElem_toArray, List.getElem_cons_succ, List.getElem_cons_zero, List.setIfInBounds_toArray, List.set_cons_zero, List.set_cons_succ]
      refine wpI_takeP (i := 8) rfl (by kernel_rfl) (by kernel_rfl) (by kernel_rfl) (by first | exact fun _ _ _ h => h | exact fun _ _ _ h => HQ0.out _ _ _ _ _ h) ((yields_and (by rfl) _ _ _ _ rfl rx mx rfl rfl)) ?_
      simp only [Act.put, List.getElem_toArray, List.getElem_cons_succ, List.getElem_cons_zero, List.setIfInBounds_toArray, List.set_cons_zero, List.set_cons_succ]
      (try simp only [Bool.not_true, Bool.not_false])
      refine wpI_takeP (i := 9) (v := ?_) rfl (by kernel_rfl) (by kernel_rfl) (by kernel_rfl) (by first | exact fun _ _ _ h => h | exact fun _ _ _ h => HQ0.out _ _ _ _ _ h) (Or.inl ⟨by rfl, ?hy⟩) ?_
      case hy => (intro W; go_simp; (try with_reducible rfl))
      simp only [Act.put, List.getElem_toArray, List.getElem_cons_succ, List.getElem_cons_zero, List.setIfInBounds_toArray, List.set_cons_zero, List.set_cons_succ]
      refine wpI_done (by kernel_rfl) ?_ _
      (try simp only [Act.put, List.getElem_toArray, List.getElem_cons_succ, List.getElem_cons_zero, List.setIfInBounds_toArray, List.set_cons_zero, List.set_cons_succ])
      replace hM := hM.perm HP.out.symm
      clear HP
      go_upto_region 9 with (fail)
      have c1 := poll_cells (hM.perm (swap_perm _ _)) HC.out
      have l1 := poll_lt (hM.perm (swap_perm _ _)) HC.out
      simp only [cW] at c1 l1
      have HN := Lib.hid (show (tellB ⟨gx, fx, mx, rx, ex, frx⟩ && !((s.o.length : Int) == most)) = !(bAnd rx mx == 0 || (ex && !frx) || ((s.o.length : Int) == most)) from by
        unfold tellB
        cases (bAnd rx mx == 0) <;> cases ex <;> cases frx <;> cases ((s.o.length : Int) == most) <;> rfl)
      have HL := Lib.hid HR.out.ln
      go_cut [52] (fun m wc => m = .bool (bAnd rx mx == 0 || (ex && !frx) || ((s.o.length : Int) == most)) ∧ wc = wo)
      case first =>
        cases e0 : (bAnd rx mx == 0)
        · cases ex
          · cases el : ((s.o.length : Int) == most)
            · go_wp2_with fail
              go_meet
              case rel => exact ⟨by rw [e0, el]; rfl, rfl⟩
            · go_wp2_with fail
              go_meet
              case rel => exact ⟨by rw [e0, el]; rfl, rfl⟩
          · cases frx
            · go_wp2_with fail
              go_meet
              case rel => exact ⟨by rw [e0]; rfl, rfl⟩
            · cases el : ((s.o.length : Int) == most)
              · go_wp2_with fail
                go_meet
                case rel => exact ⟨by rw [e0, el]; rfl, rfl⟩
              · go_wp2_with fail
                go_meet
                case rel => exact ⟨by rw [e0, el]; rfl, rfl⟩
        · go_wp2_with fail
          go_meet
          case rel => exact ⟨by rw [e0]; rfl, rfl⟩
      case rest =>
        obtain ⟨rfl, hwc⟩ := hcut
        have hwc' := hwc.symm
        clear hwc
        subst hwc'
        have hl := HL.out
        clear c1 l1
        cases hcond : (bAnd rx mx == 0 || (ex && !frx) || ((s.o.length : Int) == most))
        · have HT1 := Lib.hid (show (tellB ⟨gx, fx, mx, rx, ex, frx⟩ && !((s.o.length : Int) == most)) = true from by rw [HN.out, hcond]; rfl)
          clear hcond HN
          have c1 := poll_cells (hM.perm (swap_perm _ _)) HC.out
          have l1 := poll_lt (hM.perm (swap_perm _ _)) HC.out
          simp only [cW] at c1 l1
          go_upto_region 12 with (first | go_skip | ((with_reducible refine at_bslice_ ?_); go_loud (refine wpList_bslice_mem rfl _ 78 _ rfl Try.underlying74 (.agg #[.int .i64 0, .int .i64 0]) (fun _ => by kernel_rfl) ([.int .i64 fx, .int .i64 (bAnd rx mx)]) rfl rfl (by kernel_rfl) (by simp) (by simp) hM ?_); clear hM; intro gs W hM) | ((with_reducible refine at_append_ ?_); refine wpList_append_row (α := KWake) (f := cWake) (size := 2) rfl _ _ _ 78 rfl Try.underlying74 16 (by kernel_rfl) (by decide) 0 _ gs (.slice O s.o.length oc) s.o ⟨fx, bAnd rx mx⟩ hM rfl (get_last _ _) rfl 1 rfl rfl (one_cWake _) (by omega) (by unfold maxLen; omega) ?_; clear hM; intro v2 W hM))
          replace hM := wt_last (show MemX _ w W ((wtL v2 tv rv ⟨s.o ++ [outW ⟨gx, fx, mx, rx, ex, frx⟩], s.t, s.r⟩ ++ pollL g (.slice (some ⟨gr, off, none⟩) ws.length cap) cur) ++ [atR gs 78 (cWake ⟨fx, bAnd rx mx⟩)]) from hM)
          clear c1 l1
          go_upto_region 13 with (first | go_skip | ((with_reducible refine at_bslice_ ?_); refine wpList_bslice_mem rfl _ 109 _ rfl Try.underlying106 (.pointer none) (fun _ => by kernel_rfl) ([.pointer (some ⟨gx, 0, none⟩)]) rfl rfl (by kernel_rfl) (by simp) (by simp) hM ?_; clear hM; intro gs W hM) | ((with_reducible refine at_append_ ?_); refine wpList_append_row (α := KW) (f := fPtr) (size := 1) rfl _ _ _ 109 rfl Try.underlying106 8 (by kernel_rfl) (by decide) 1 _ gs tv s.t ⟨gx, fx, mx, rx, ex, false⟩ hM rfl (get_last _ _) rfl 1 rfl rfl (one_fPtr _) (by omega) (by unfold maxLen; omega) ?_; clear hM; intro v3 W hM))
          replace hM := wt_last (show MemX _ w W ((wtL v2 v3 rv ⟨s.o ++ [outW ⟨gx, fx, mx, rx, ex, frx⟩], s.t ++ [toldW ⟨gx, fx, mx, rx, ex, frx⟩], s.r⟩ ++ pollL g (.slice (some ⟨gr, off, none⟩) ws.length cap) cur) ++ [atR gs 109 [.pointer (some ⟨gx, 0, none⟩)]]) from hM)
          replace hM := hM.perm (swap_perm _ _)
          go_wp2_with (first | go_skip | ((with_reducible refine at_store_ ?_); refine wpList_store_w rfl _ _ _ rfl k (⟨gx, fx, mx, rx, ex, frx⟩) (⟨gx, fx, mx, rx, ex, false⟩) _ _ hM HC.out rfl rfl rfl rfl (by kernel_rfl) rfl rfl rfl ?_; clear hM; intro W hM))
          replace hM := hM.perm (swap_perm _ _)
          go_roundg (ws.length - (k + 1))
          case measure => have := HGK.out; omega
          case rel => exact ⟨k + 1, _, _, _, _, _, rfl, by omega, by go_num, rfl, rfl, rfl, hM, Lib.hid (wrel_tell HR.out HX.out HT1.out), Lib.hid (fun h => by simp at h)⟩
        · have HT1 := Lib.hid (show (tellB ⟨gx, fx, mx, rx, ex, frx⟩ && !((s.o.length : Int) == most)) = false from by rw [HN.out, hcond]; rfl)
          clear hcond HN
          go_wp2_with (first | go_skip | ((with_reducible refine at_bslice_ ?_); refine wpList_bslice_mem rfl _ 109 _ rfl Try.underlying106 (.pointer none) (fun _ => by kernel_rfl) ([.pointer (some ⟨gx, 0, none⟩)]) rfl rfl (by kernel_rfl) (by simp) (by simp) hM ?_; clear hM; intro gs W hM) | ((with_reducible refine at_append_ ?_); refine wpList_append_row (α := KW) (f := fPtr) (size := 1) rfl _ _ _ 109 rfl Try.underlying106 8 (by kernel_rfl) (by decide) 2 _ gs rv s.r ⟨gx, fx, mx, rx, ex, frx⟩ hM rfl (get_last _ _) rfl 1 rfl rfl (one_fPtr _) (by omega) (by unfold maxLen; omega) ?_; clear hM; intro v3 W hM))
          replace hM := wt_last (show MemX _ w W ((wtL (.slice O s.o.length oc) tv v3 ⟨s.o, s.t, s.r ++ [⟨gx, fx, mx, rx, ex, frx⟩]⟩ ++ pollL g (.slice (some ⟨gr, off, none⟩) ws.length cap) cur) ++ [atR gs 109 [.pointer (some ⟨gx, 0, none⟩)]]) from hM)
          go_roundg (ws.length - (k + 1))
          case measure => have := HGK.out; omega
          case rel => exact ⟨k + 1, _, _, _, _, _, rfl, by omega, by go_num, rfl, rfl, rfl, hM, Lib.hid (wrel_rest HR.out HX.out HT1.out), HT⟩
    · obtain rfl : k = ws.length := by omega
      have hs : s = wFold most ws := by rw [HR.out.st, List.take_length]
      have hperm : cur.Perm (s.r ++ s.t) := by
        have := HR.out.perm
        rwa [List.take_of_length_le (by rw [HR.out.len]; exact Nat.le_refl _)] at this
      have hl := HR.out.ln
      have HS := Lib.hid hs
      have HPM := Lib.hid hperm
      clear hs hperm
      by_cases ht : s.t = []
      · have htv := HT.out ht
        have ht' := Lib.hid ht
        subst htv
        have hWr : Win wr 0 1 rv s.r.length (s.r.flatMap fPtr) := hM.row (f := fPtr) (rs := s.r) 2 rfl
        obtain ⟨B, cb, rfl⟩ := hWr.form
        have hcb : s.r.length ≤ cb := by
          rcases hWr.2 with ⟨e, h0⟩ | ⟨g', off', cap', e, hA⟩
          · omega
          · injection e with _ _ e; subst e; exact hA.le
        obtain ⟨iE, hiE, hsz⟩ := inf_fPtr
        have HRN := Lib.hid (fun (W : World) ty => run_append_nil (P := Try.prog) W 106 109 ty iE Try.underlying106 hiE B s.r.length cb hcb)
        clear hiE hsz hWr hcb ht
        go_wp2_with (first | go_skip | ((with_reducible refine at_append_ ?_); refine wpList_append_run rfl _ _ _ _ rfl _ _ rfl rfl _ _ (HRN.out _ _) ?_) | ((with_reducible refine at_store_ ?_); refine wpList_store1_mem rfl _ _ _ rfl 3 g _ _ 0 _ hM rfl rfl rfl rfl rfl (by kernel_rfl) rfl ?_; clear hM; intro W hM))
        go_ret2
        refine ⟨.slice B s.r.length cb, ov, rfl, ?_⟩
        have h1 := wt_final (z := s.r) (R := rowR 2 cWake ov s.o) (T := plW (.slice none 0 0) s.t) (v' := .slice B s.r.length cb) (g := g) (Y := plW (.slice A ws.length cap) cur) hM (by have := HPM.out; rwa [ht'.out, List.append_nil] at this)
        unfold wRow wOut
        rw [← HS.out, ht'.out, List.append_nil]
        exact h1
      · have htp : 0 < s.t.length := List.length_pos_iff.2 ht
        have hWr : Win wr 0 1 rv s.r.length (s.r.flatMap fPtr) := hM.row (f := fPtr) (rs := s.r) 2 rfl
        clear ht
        go_wp2_with (first | go_skip | ((with_reducible refine at_append_ ?_); refine wpList_append_rows (α := KW) (f := fPtr) (size := 1) rfl _ _ _ 109 rfl Try.underlying106 8 (by kernel_rfl) (by decide) 2 1 rv tv s.r s.t hM rfl rfl rfl rfl htp one_fPtr (by omega) (by unfold maxLen; omega) ?_; clear hM; intro v3 W hM; obtain ⟨HV1, HV2⟩ := slice_one (hM.row (f := fPtr) (rs := s.r ++ s.t) 2 rfl)) | ((with_reducible refine at_store_ ?_); refine wpList_store1_mem rfl _ _ _ rfl 3 g _ _ 0 v3 hM rfl rfl rfl HV1.out HV2.out (by kernel_rfl) rfl ?_; clear hM; intro W hM))
        go_ret2
        refine ⟨v3, ov, rfl, ?_⟩
        have h1 := wt_final (z := s.r ++ s.t) (R := rowR 2 cWake ov s.o) (T := plW tv s.t) (v' := v3) (g := g) (Y := plW (.slice A ws.length cap) cur) hM HPM.out
        unfold wRow wOut
        rw [← HS.out]
        exact h1
end Go.Proofs.Ytgdfjkdcdfmifaa
