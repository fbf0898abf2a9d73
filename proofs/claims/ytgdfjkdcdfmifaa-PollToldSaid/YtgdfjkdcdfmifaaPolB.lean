/- poll.Poller: Set, Note, Drop. Written by my genpo2.py. -/
import Derived.Test.YtgdfjkdcdfmifaaPolA
import Derived.Test.YtgdfjkdcdfmifaaSt
namespace Go.Proofs.Ytgdfjkdcdfmifaa
open Go.RowKit Go.Lib
set_option linter.unusedVariables false
set_option linter.unusedSimpArgs false

section
variable {E : Nat → Prop} {P : Program} {ops : Array Oper} {rest : List Oper} {op : Oper} {a : Act} {w0 w W : World} {Q : Exit → Act → World → Prop} {g : Nat} {v : Value} {ws : List KW} {m : List Res}
theorem pl_hand (h : MemX E w0 W (pollL g v ws ++ m)) : PlPre W W g v ws v ws := h.hand
theorem pl_start (h : MemX E w0 W (pollL g v ws)) : MemX E w0 W (pollL g v ws ++ []) := by rwa [List.append_nil]
theorem pl_end (h : MemX E w0 W (pollL g v ws ++ m)) : MemX E w0 W (pollL g v ws) := by
  have := h.take_ (pollL g v ws).length
  rwa [List.take_left] at this
/-- a field of the watch k written -/
theorem wpList_store_w (hgd : op.guard = none) (T : TypeId) (x y : Operand) (ho : op.op = .store T x y) (k : Nat) (z z' : KW) (i : Nat) (val : Value) (hM : MemX E w0 w (pollL g v ws ++ m)) (hk : ws[k]? = some z) (hx : a.eval x = .pointer (some ⟨z.g, i, none⟩)) (hy : a.eval y = val)
    (hv : val.cells = [val].toArray) (h1 : val.oneCell' = true) (hi : (P.info? T).map (·.size) = some 1) (hlt' : ((cW z)[i]?).isSome = true) (hz : (cW z).set i val = cW z') (hg : z'.g = z.g)
    (h : ∀ W, MemX E w0 W (pollL g v (ws.set k z') ++ m) → wpList P ops Q rest (a.put op.dst undef) W) : wpList P ops Q (op :: rest) a w := by
  refine wpList_store1_mem hgd T x y ho (2 + k) z.g _ (cW z) i val hM (app_at (poll_at hk)) hx hy hv h1 hi hlt' (fun W hM => h W ?_)
  rw [hz, app_set (by rw [poll_len]; have := (List.getElem?_eq_some_iff.1 hk).1; omega) (poll_set hk hg)] at hM
  exact hM
theorem set_get {k : Nat} {x y : KW} (h : ws[k]? = some x) : (ws.set k y)[k]? = some y := List.getElem?_set_self (List.getElem?_eq_some_iff.1 h).1
theorem get_last2 (l : List Res) (A B : Res) : (l ++ [A, B])[l.length + 1]? = some B := by
  rw [List.getElem?_append_right (by omega), show l.length + 1 - l.length = 1 by omega]; rfl
theorem poll_cells {k : Nat} {x : KW} (hM : MemX E w0 W (pollL g v ws ++ m)) (h : ws[k]? = some x) : ∀ j, W.cell? ⟨x.g, j, none⟩ = (cW x)[j]? := hM.cells (2 + k) (app_at (poll_at h))
theorem poll_lt {k : Nat} {x : KW} (hM : MemX E w0 W (pollL g v ws ++ m)) (h : ws[k]? = some x) : x.g < W.heap.size := hM.lt (2 + k) (app_at (poll_at h))
end
theorem slice_one {W : World} {b s n : Nat} {v : Value} {cs : List Value} (h : Win W b s v n cs) : Hid (v.cells = [v].toArray) ∧ Hid (v.oneCell' = true) := by
  obtain ⟨A, cap, rfl⟩ := h.form
  exact ⟨Lib.hid rfl, Lib.hid rfl⟩
def setW (x : KW) (mask : Int) (edge : Bool) : KW := { x with mask := bOr (bAnd mask 7) 4, edge := edge, fresh := true }
def noteW (x : KW) (mask : Int) : KW := { x with fresh := x.fresh || (bAndNot (bAnd mask 7) x.ready != 0), ready := bAnd mask 7 }
def atW (ws : List KW) (fd : Int) : Int := idxOf (fun x => decide (x.fd = fd)) ws

set_option maxRecDepth 100000 in
set_option maxHeartbeats 4000000 in
theorem Set_arg (g : Nat) (fd mask : Int) (edge : Bool) (w : World) (hf : fd < 0 ∨ 16 ≤ fd) : Calls Try.prog 41 #[.pointer (some ⟨g, 0, none⟩), .int .i64 fd, .int .i64 mask, .bool edge] w fun e w' => e = .returned (.int .i64 1) ∧ Below w.heap.size w w' := by
  rcases hf with hf | hf
  · go_enter Try.func41, Try.ntmps41
    go_wp2_with fail
    go_ret
    exact ⟨rfl, Below.refl _ _⟩
  · have hf2 : ¬ fd < 0 := by omega
    go_enter Try.func41, Try.ntmps41
    go_wp2_with fail
    go_ret
    exact ⟨rfl, Below.refl _ _⟩
set_option maxRecDepth 100000 in
set_option maxHeartbeats 4000000 in
theorem Set_old (g : Nat) (v : Value) (ws : List KW) (fd mask : Int) (edge : Bool) (k : Nat) (x : KW) (w : World) (hM0 : PlPre w w g v ws v ws) (hn : ws.length ≤ 100000) (hf : 0 ≤ fd ∧ fd < 16) (hi : atW ws fd = k) (hk : ws[k]? = some x) :
    Calls Try.prog 41 #[.pointer (some ⟨g, 0, none⟩), .int .i64 fd, .int .i64 mask, .bool edge] w fun e w' => e = .returned (.int .i64 0) ∧ PlPre w w' g v ws v (ws.set k (setW x mask edge)) := by
  have hM := pl_start hM0
  have HAT := Lib.hid (fun W h => at_any g v ws fd W h hn)
  rw [show idxOf (fun x => decide (x.fd = fd)) ws = k from hi] at HAT
  clear hM0 hi
  obtain ⟨hf1, hf2⟩ := hf
  obtain ⟨gx, fx, mx, rx, ex, frx⟩ := x
  have hkl := (List.getElem?_eq_some_iff.1 hk).1
  have HK := Lib.hid hk
  clear hk
  go_enter Try.func41, Try.ntmps41
  go_upto_region 9 with         (first
          | go_skip
          | (go_at_call 51; refine (HAT.out _ (pl_hand hM)).mono ?_; rintro e W ⟨rfl, hb⟩; replace hM := hM.kept hb; clear hb; dsimp only)
          | ((with_reducible refine at_box_ ?_); refine wpList_box_mem rfl _ _ rfl _ rfl hM ?_; clear hM; intro gb W hM; first | (simp only [List.nil_append] at hM) | (simp only [List.cons_append, List.nil_append] at hM)))
  obtain ⟨gr, off, cap, rfl, hcell, hgr⟩ := poll_ptr hM HK.out
  have c0 := hM.cells 0 rfl
  have l0 := hM.lt 0 rfl
  go_upto_region 10 with (fail)
  clear c0 l0 hcell
  go_wp2_with (first
    | go_skip
    | (refine at_and_ ?_; refine wpList_valI (by rfl) (exec_and _ _ _ _ rfl _ _ rfl rfl _) ?_)
    | (refine at_or_ ?_; refine wpList_valI (by rfl) (exec_or _ _ _ _ rfl _ _ rfl rfl _) ?_)
    | (refine at_andNot_ ?_; refine wpList_valI (by rfl) (exec_andNot _ _ _ _ rfl _ _ rfl rfl _) ?_)
    | ((with_reducible refine at_store_ ?_); refine wpList_store_w rfl _ _ _ rfl k (⟨gx, fx, mx, rx, ex, frx⟩) (⟨gx, fx, bOr (bAnd mask 7) 4, rx, ex, frx⟩) _ _ hM HK.out rfl rfl rfl rfl (by kernel_rfl) rfl rfl rfl ?_; clear hM; intro W hM)
    | ((with_reducible refine at_store_ ?_); refine wpList_store_w rfl _ _ _ rfl k (⟨gx, fx, bOr (bAnd mask 7) 4, rx, ex, frx⟩) (⟨gx, fx, bOr (bAnd mask 7) 4, rx, edge, frx⟩) _ _ hM (set_get HK.out) rfl rfl rfl rfl (by kernel_rfl) rfl rfl rfl ?_; clear hM; intro W hM)
    | ((with_reducible refine at_store_ ?_); refine wpList_store_w rfl _ _ _ rfl k (⟨gx, fx, bOr (bAnd mask 7) 4, rx, edge, frx⟩) (⟨gx, fx, bOr (bAnd mask 7) 4, rx, edge, true⟩) _ _ hM (set_get (set_get HK.out)) rfl rfl rfl rfl (by kernel_rfl) rfl rfl rfl ?_; clear hM; intro W hM)
    | ((with_reducible refine at_box_ ?_); refine wpList_box_mem rfl _ _ rfl _ rfl hM ?_; clear hM; intro gb W hM; first | (simp only [List.nil_append] at hM) | (simp only [List.cons_append, List.nil_append] at hM)))
  go_ret
  rw [List.set_set, List.set_set] at hM
  exact ⟨rfl, pl_end hM⟩
set_option maxRecDepth 100000 in
set_option maxHeartbeats 4000000 in
theorem Set_new (g : Nat) (v : Value) (ws : List KW) (fd mask : Int) (edge : Bool) (w : World) (hM0 : PlPre w w g v ws v ws) (hn : ws.length < 16) (hf : 0 ≤ fd ∧ fd < 16) (hi : atW ws fd < 0) :
    Calls Try.prog 41 #[.pointer (some ⟨g, 0, none⟩), .int .i64 fd, .int .i64 mask, .bool edge] w fun e w' => ∃ v' gw, e = .returned (.int .i64 0) ∧ PlPre w w' g v ws v' (ws ++ [setW ⟨gw, fd, 0, 0, false, false⟩ mask edge]) := by
  have hM := pl_start hM0
  have HAT := Lib.hid (fun W h => at_any g v ws fd W h (by omega))
  rw [show idxOf (fun x => decide (x.fd = fd)) ws = atW ws fd from rfl] at HAT
  generalize atW ws fd = q at *
  have hn16 : ((ws.length : Int) == 16) = false := by simp; omega
  obtain ⟨hf1, hf2⟩ := hf
  obtain ⟨A, cap, rfl⟩ := (show Win w 0 1 v ws.length (ws.flatMap fPtr) from hM0.row (f := fPtr) (rs := ws) 1 rfl).form
  clear hM0
  go_enter Try.func41, Try.ntmps41
  go_upto_region 5 with         (first
          | go_skip
          | (go_at_call 51; refine (HAT.out _ (pl_hand hM)).mono ?_; rintro e W ⟨rfl, hb⟩; replace hM := hM.kept hb; clear hb; dsimp only)
          | ((with_reducible refine at_box_ ?_); refine wpList_box_mem rfl _ _ rfl _ rfl hM ?_; clear hM; intro gb W hM; first | (simp only [List.nil_append] at hM) | (simp only [List.cons_append, List.nil_append] at hM)))
  have c0 := hM.cells 0 rfl
  have l0 := hM.lt 0 rfl
  go_upto_region 8 with (fail)
  go_upto_region 9 with (first | go_skip | ((with_reducible refine at_box_ ?_); refine wpList_box_mem rfl _ _ rfl (cW ⟨0, fd, 0, 0, false, false⟩) rfl hM ?_; clear hM c0 l0; intro gw W hM; simp only [List.append_nil] at hM) | ((with_reducible refine at_bslice_ ?_); refine wpList_bslice_mem rfl _ 109 _ rfl Try.underlying106 (.pointer none) (fun _ => by kernel_rfl) [.pointer (some ⟨gw, 0, none⟩)] rfl rfl (by kernel_rfl) (by simp) (by simp) hM ?_; clear hM; intro gs W hM; rw [List.append_assoc] at hM; simp only [List.cons_append, List.nil_append] at hM) | ((with_reducible refine at_append_ ?_); go_loud (refine wpList_append_row (α := KW) (f := fPtr) (size := 1) rfl _ _ _ 109 rfl Try.underlying106 8 (by kernel_rfl) (by decide) 1 ((pollL g (.slice A ws.length cap) ws).length + 1) gs _ ws ⟨gw, fd, 0, 0, false, false⟩ hM rfl (get_last2 _ _ _) rfl 1 rfl rfl (one_fPtr _) (by omega) (by unfold maxLen; omega) ?_); clear hM; intro v2 W hM; obtain ⟨HV1, HV2⟩ := slice_one (hM.row (f := fPtr) (rs := ws ++ [_]) 1 rfl)) | ((with_reducible refine at_store_ ?_); refine wpList_store1_mem rfl _ _ _ rfl 0 g _ _ 0 v2 hM rfl rfl rfl HV1.out HV2.out (by kernel_rfl) rfl ?_; clear hM; intro W hM))
  replace hM := (show MemX (blkE (pollL g (.slice A ws.length cap) ws)) w W (plA g v2 :: plW v2 (ws ++ [⟨gw, fd, 0, 0, false, false⟩]) :: (ws.map wR ++ [wR ⟨gw, fd, 0, 0, false, false⟩, atR gs 109 [.pointer (some ⟨gw, 0, none⟩)]])) from hM)
  have hN : plA g v2 :: plW v2 (ws ++ [⟨gw, fd, 0, 0, false, false⟩]) :: (ws.map wR ++ [wR ⟨gw, fd, 0, 0, false, false⟩, atR gs 109 [.pointer (some ⟨gw, 0, none⟩)]]) = pollL g v2 (ws ++ [⟨gw, fd, 0, 0, false, false⟩]) ++ [atR gs 109 [.pointer (some ⟨gw, 0, none⟩)]] := by simp [pollL]
  rw [hN] at hM
  clear hN HV1 HV2
  have hk : (ws ++ [⟨gw, fd, 0, 0, false, false⟩])[ws.length]? = some ⟨gw, fd, 0, 0, false, false⟩ := by simp
  have HK := Lib.hid hk
  clear hk
  obtain ⟨gr, off, cap2, hv2, hcell, hgr⟩ := poll_ptr hM HK.out
  have hlen : (ws ++ [(⟨gw, fd, 0, 0, false, false⟩ : KW)]).length = ws.length + 1 := by simp
  rw [hlen] at hv2
  clear hlen
  subst hv2
  have c0 := hM.cells 0 rfl
  have l0 := hM.lt 0 rfl
  (try simp only [Act.put])
  go_upto_region 10 with (fail)
  clear c0 l0 hcell
  go_wp2_with (first
    | go_skip
    | (refine at_and_ ?_; refine wpList_valI (by rfl) (exec_and _ _ _ _ rfl _ _ rfl rfl _) ?_)
    | (refine at_or_ ?_; refine wpList_valI (by rfl) (exec_or _ _ _ _ rfl _ _ rfl rfl _) ?_)
    | (refine at_andNot_ ?_; refine wpList_valI (by rfl) (exec_andNot _ _ _ _ rfl _ _ rfl rfl _) ?_)
    | ((with_reducible refine at_store_ ?_); refine wpList_store_w rfl _ _ _ rfl ws.length (⟨gw, fd, 0, 0, false, false⟩) (⟨gw, fd, bOr (bAnd mask 7) 4, 0, false, false⟩) _ _ hM HK.out rfl rfl rfl rfl (by kernel_rfl) rfl rfl rfl ?_; clear hM; intro W hM)
    | ((with_reducible refine at_store_ ?_); refine wpList_store_w rfl _ _ _ rfl ws.length (⟨gw, fd, bOr (bAnd mask 7) 4, 0, false, false⟩) (⟨gw, fd, bOr (bAnd mask 7) 4, 0, edge, false⟩) _ _ hM (set_get HK.out) rfl rfl rfl rfl (by kernel_rfl) rfl rfl rfl ?_; clear hM; intro W hM)
    | ((with_reducible refine at_store_ ?_); refine wpList_store_w rfl _ _ _ rfl ws.length (⟨gw, fd, bOr (bAnd mask 7) 4, 0, edge, false⟩) (⟨gw, fd, bOr (bAnd mask 7) 4, 0, edge, true⟩) _ _ hM (set_get (set_get HK.out)) rfl rfl rfl rfl (by kernel_rfl) rfl rfl rfl ?_; clear hM; intro W hM)
    | ((with_reducible refine at_box_ ?_); refine wpList_box_mem rfl _ _ rfl _ rfl hM ?_; clear hM; intro gb W hM; first | (simp only [List.nil_append] at hM) | (simp only [List.cons_append, List.nil_append] at hM)))
  go_ret
  have hse : (ws ++ [(⟨gw, fd, 0, 0, false, false⟩ : KW)]).set ws.length ⟨gw, fd, bOr (bAnd mask 7) 4, 0, edge, true⟩ = ws ++ [⟨gw, fd, bOr (bAnd mask 7) 4, 0, edge, true⟩] := by simp
  rw [List.set_set, List.set_set, hse] at hM
  exact ⟨_, gw, rfl, pl_end hM⟩
set_option maxRecDepth 100000 in
set_option maxHeartbeats 4000000 in
theorem Note_no (g : Nat) (v : Value) (ws : List KW) (fd mask : Int) (w : World) (hM0 : PlPre w w g v ws v ws) (hn : ws.length ≤ 100000) (hi : atW ws fd < 0) :
    Calls Try.prog 42 #[.pointer (some ⟨g, 0, none⟩), .int .i64 fd, .int .i64 mask] w fun e w' => e = .returned (.tuple #[]) ∧ Below w.heap.size w w' := by
  have HAT := Lib.hid (at_any g v ws fd w hM0 hn)
  rw [show idxOf (fun x => decide (x.fd = fd)) ws = atW ws fd from rfl] at HAT
  generalize atW ws fd = q at *
  clear hM0
  go_enter Try.func42, Try.ntmps42
  go_wp2_with (go_at_call 51; refine HAT.out.mono ?_; rintro e W ⟨rfl, hb⟩; dsimp only)
  (first | go_end0 | (refine bodyPost_ret (results_none rfl _ _ _) rfl ?_))
  exact ⟨rfl, hb⟩
set_option maxRecDepth 100000 in
set_option maxHeartbeats 4000000 in
theorem Note_yes (g : Nat) (v : Value) (ws : List KW) (fd mask : Int) (k : Nat) (x : KW) (w : World) (hM0 : PlPre w w g v ws v ws) (hn : ws.length ≤ 100000) (hi : atW ws fd = k) (hk : ws[k]? = some x) :
    Calls Try.prog 42 #[.pointer (some ⟨g, 0, none⟩), .int .i64 fd, .int .i64 mask] w fun e w' => e = .returned (.tuple #[]) ∧ PlPre w w' g v ws v (ws.set k (noteW x mask)) := by
  have hM := pl_start hM0
  have HAT := Lib.hid (fun W h => at_any g v ws fd W h hn)
  rw [show idxOf (fun x => decide (x.fd = fd)) ws = k from hi] at HAT
  clear hM0 hi
  obtain ⟨gx, fx, mx, rx, ex, frx⟩ := x
  have hkl := (List.getElem?_eq_some_iff.1 hk).1
  unfold noteW
  dsimp only
  have hfr : ∀ b : Bool, (bAndNot (bAnd mask 7) rx != 0) = b → (frx || b) = (frx || (bAndNot (bAnd mask 7) rx != 0)) := fun b h => by rw [h]
  obtain ⟨fr2, hfr2⟩ : ∃ b : Bool, (bAndNot (bAnd mask 7) rx != 0) = b := ⟨_, rfl⟩
  rw [hfr2]
  clear hfr
  have HK := Lib.hid hk
  clear hk
  cases frx
  · go_enter Try.func42, Try.ntmps42
    go_upto_region 2 with         (first
          | go_skip
          | (go_at_call 51; refine (HAT.out _ (pl_hand hM)).mono ?_; rintro e W ⟨rfl, hb⟩; replace hM := hM.kept hb; clear hb; dsimp only)
          | ((with_reducible refine at_box_ ?_); refine wpList_box_mem rfl _ _ rfl _ rfl hM ?_; clear hM; intro gb W hM; first | (simp only [List.nil_append] at hM) | (simp only [List.cons_append, List.nil_append] at hM)))
    obtain ⟨gr, off, cap, rfl, hcell, hgr⟩ := poll_ptr hM HK.out
    have c0 := hM.cells 0 rfl
    have l0 := hM.lt 0 rfl
    go_upto_region 3 with (fail)
    clear c0 l0 hcell
    have c1 := poll_cells hM HK.out
    have l1 := poll_lt hM HK.out
    simp only [cW] at c1 l1
    go_upto_region 4 with         (first
          | go_skip
          | (refine at_and_ ?_; refine wpList_valI (by rfl) (exec_and _ _ _ _ rfl _ _ rfl rfl _) ?_)
          | (refine at_or_ ?_; refine wpList_valI (by rfl) (exec_or _ _ _ _ rfl _ _ rfl rfl _) ?_)
          | (refine at_andNot_ ?_; refine wpList_valI (by rfl) (exec_andNot _ _ _ _ rfl _ _ rfl rfl _) ?_)
          | ((with_reducible refine at_store_ ?_); refine wpList_store_w rfl _ _ _ rfl k (⟨gx, fx, mx, rx, ex, false⟩) (⟨gx, fx, mx, rx, ex, fr2⟩) _ _ hM HK.out rfl rfl rfl rfl (by kernel_rfl) rfl rfl rfl ?_; clear hM c1 l1; intro W hM)
          | ((with_reducible refine at_box_ ?_); refine wpList_box_mem rfl _ _ rfl _ rfl hM ?_; clear hM; intro gb W hM; first | (simp only [List.nil_append] at hM) | (simp only [List.cons_append, List.nil_append] at hM)))
    go_wp2_with         (first
          | go_skip
          | (refine at_and_ ?_; refine wpList_valI (by rfl) (exec_and _ _ _ _ rfl _ _ rfl rfl _) ?_)
          | (refine at_or_ ?_; refine wpList_valI (by rfl) (exec_or _ _ _ _ rfl _ _ rfl rfl _) ?_)
          | (refine at_andNot_ ?_; refine wpList_valI (by rfl) (exec_andNot _ _ _ _ rfl _ _ rfl rfl _) ?_)
          | ((with_reducible refine at_store_ ?_); refine wpList_store_w rfl _ _ _ rfl k (⟨gx, fx, mx, rx, ex, fr2⟩) (⟨gx, fx, mx, bAnd mask 7, ex, fr2⟩) _ _ hM (set_get HK.out) rfl rfl rfl rfl (by kernel_rfl) rfl rfl rfl ?_; clear hM; intro W hM)
          | ((with_reducible refine at_box_ ?_); refine wpList_box_mem rfl _ _ rfl _ rfl hM ?_; clear hM; intro gb W hM; first | (simp only [List.nil_append] at hM) | (simp only [List.cons_append, List.nil_append] at hM)))
    (first | go_end0 | (refine bodyPost_ret (results_none rfl _ _ _) rfl ?_))
    rw [List.set_set] at hM
    exact ⟨rfl, pl_end hM⟩
  · go_enter Try.func42, Try.ntmps42
    go_upto_region 2 with         (first
          | go_skip
          | (go_at_call 51; refine (HAT.out _ (pl_hand hM)).mono ?_; rintro e W ⟨rfl, hb⟩; replace hM := hM.kept hb; clear hb; dsimp only)
          | ((with_reducible refine at_box_ ?_); refine wpList_box_mem rfl _ _ rfl _ rfl hM ?_; clear hM; intro gb W hM; first | (simp only [List.nil_append] at hM) | (simp only [List.cons_append, List.nil_append] at hM)))
    obtain ⟨gr, off, cap, rfl, hcell, hgr⟩ := poll_ptr hM HK.out
    have c0 := hM.cells 0 rfl
    have l0 := hM.lt 0 rfl
    go_upto_region 3 with (fail)
    clear c0 l0 hcell
    have c1 := poll_cells hM HK.out
    have l1 := poll_lt hM HK.out
    simp only [cW] at c1 l1
    go_upto_region 4 with         (first
          | go_skip
          | (refine at_and_ ?_; refine wpList_valI (by rfl) (exec_and _ _ _ _ rfl _ _ rfl rfl _) ?_)
          | (refine at_or_ ?_; refine wpList_valI (by rfl) (exec_or _ _ _ _ rfl _ _ rfl rfl _) ?_)
          | (refine at_andNot_ ?_; refine wpList_valI (by rfl) (exec_andNot _ _ _ _ rfl _ _ rfl rfl _) ?_)
          | ((with_reducible refine at_store_ ?_); refine wpList_store_w rfl _ _ _ rfl k (⟨gx, fx, mx, rx, ex, true⟩) (⟨gx, fx, mx, rx, ex, true⟩) _ _ hM HK.out rfl rfl rfl rfl (by kernel_rfl) rfl rfl rfl ?_; clear hM c1 l1; intro W hM)
          | ((with_reducible refine at_box_ ?_); refine wpList_box_mem rfl _ _ rfl _ rfl hM ?_; clear hM; intro gb W hM; first | (simp only [List.nil_append] at hM) | (simp only [List.cons_append, List.nil_append] at hM)))
    go_wp2_with         (first
          | go_skip
          | (refine at_and_ ?_; refine wpList_valI (by rfl) (exec_and _ _ _ _ rfl _ _ rfl rfl _) ?_)
          | (refine at_or_ ?_; refine wpList_valI (by rfl) (exec_or _ _ _ _ rfl _ _ rfl rfl _) ?_)
          | (refine at_andNot_ ?_; refine wpList_valI (by rfl) (exec_andNot _ _ _ _ rfl _ _ rfl rfl _) ?_)
          | ((with_reducible refine at_store_ ?_); refine wpList_store_w rfl _ _ _ rfl k (⟨gx, fx, mx, rx, ex, true⟩) (⟨gx, fx, mx, bAnd mask 7, ex, true⟩) _ _ hM (set_get HK.out) rfl rfl rfl rfl (by kernel_rfl) rfl rfl rfl ?_; clear hM; intro W hM)
          | ((with_reducible refine at_box_ ?_); refine wpList_box_mem rfl _ _ rfl _ rfl hM ?_; clear hM; intro gb W hM; first | (simp only [List.nil_append] at hM) | (simp only [List.cons_append, List.nil_append] at hM)))
    (first | go_end0 | (refine bodyPost_ret (results_none rfl _ _ _) rfl ?_))
    rw [List.set_set] at hM
    exact ⟨rfl, pl_end hM⟩
set_option maxRecDepth 100000 in
set_option maxHeartbeats 4000000 in
theorem Drop_no (g : Nat) (v : Value) (ws : List KW) (fd : Int) (w : World) (hM0 : PlPre w w g v ws v ws) (hn : ws.length ≤ 100000) (hi : atW ws fd < 0) :
    Calls Try.prog 44 #[.pointer (some ⟨g, 0, none⟩), .int .i64 fd] w fun e w' => e = .returned (.int .i64 7) ∧ Below w.heap.size w w' := by
  have HAT := Lib.hid (at_any g v ws fd w hM0 hn)
  rw [show idxOf (fun x => decide (x.fd = fd)) ws = atW ws fd from rfl] at HAT
  generalize atW ws fd = q at *
  clear hM0
  go_enter Try.func44, Try.ntmps44
  go_wp2_with (go_at_call 51; refine HAT.out.mono ?_; rintro e W ⟨rfl, hb⟩; dsimp only)
  go_ret
  exact ⟨rfl, hb⟩
theorem pl_erase {E : Nat → Prop} {w0 W : World} {g : Nat} {v : Value} {ws : List KW} {k : Nat} (hk : k < ws.length) (h : MemX E w0 W (plA g v :: plW v (ws.eraseIdx k) :: ws.map wR)) : MemX E w0 W (pollL g v (ws.eraseIdx k)) := by
  have hp : (plA g v :: plW v (ws.eraseIdx k) :: ws.map wR).Perm (pollL g v (ws.eraseIdx k) ++ [wR ws[k]]) := by
    unfold pollL
    refine List.Perm.cons _ (List.Perm.cons _ ?_)
    have h1 : (ws.map wR).Perm (wR ws[k] :: (ws.eraseIdx k).map wR) := by
      have h2 : (ws[k] :: ws.eraseIdx k).Perm ws := by
        have h3 : ws.take k ++ ws[k] :: ws.drop (k + 1) = ws := by rw [← List.drop_eq_getElem_cons hk, List.take_append_drop]
        rw [List.eraseIdx_eq_take_drop_succ]
        conv => rhs; rw [← h3]
        exact List.perm_middle.symm
      have := h2.symm.map wR
      simpa using this
    exact h1.trans (List.perm_append_comm (l₁ := [_]))
  exact pl_end (h.perm hp)
set_option maxRecDepth 100000 in
set_option maxHeartbeats 4000000 in
theorem Drop_yes (g : Nat) (v : Value) (ws : List KW) (fd : Int) (k : Nat) (x : KW) (w : World) (hM0 : PlPre w w g v ws v ws) (hn : ws.length ≤ 100000) (hi : atW ws fd = k) (hk : ws[k]? = some x) :
    Calls Try.prog 44 #[.pointer (some ⟨g, 0, none⟩), .int .i64 fd] w fun e w' => ∃ v', e = .returned (.int .i64 0) ∧ PlPre w w' g v ws v' (ws.eraseIdx k) := by
  have hM := pl_start hM0
  have HAT := Lib.hid (fun W h => at_any g v ws fd W h hn)
  rw [show idxOf (fun x => decide (x.fd = fd)) ws = k from hi] at HAT
  have hkl := (List.getElem?_eq_some_iff.1 hk).1
  obtain ⟨m, hm⟩ : ∃ m, ws.length = m + 1 := ⟨ws.length - 1, by omega⟩
  have hWv := (show Win w 0 1 v ws.length (ws.flatMap fPtr) from hM0.row (f := fPtr) (rs := ws) 1 rfl)
  obtain ⟨A, cap, rfl⟩ := hWv.form
  have HDL := Lib.hid (fun W (hW : Win W 0 1 (.slice A ws.length cap) ws.length (ws.flatMap fPtr)) => del_watch A cap m ws k W hm (by rw [hm] at hW; exact hW) (by omega) (by omega))
  rw [← hm] at HDL
  have hel : (ws.eraseIdx k).length = m := by rw [List.length_eraseIdx, if_pos hkl]; omega
  have HEL := Lib.hid hel
  clear hM0 hi hk hm hWv hel
  go_enter Try.func44, Try.ntmps44
  go_upto_region 4 with         (first
          | go_skip
          | (go_at_call 51; refine (HAT.out _ (pl_hand hM)).mono ?_; rintro e W ⟨rfl, hb⟩; replace hM := hM.kept hb; clear hb; dsimp only)
          | ((with_reducible refine at_box_ ?_); refine wpList_box_mem rfl _ _ rfl _ rfl hM ?_; clear hM; intro gb W hM; first | (simp only [List.nil_append] at hM) | (simp only [List.cons_append, List.nil_append] at hM)))
  have c0 := hM.cells 0 rfl
  have l0 := hM.lt 0 rfl
  go_upto_region 5 with (first | go_skip | (go_at_call 52; go_loud (refine (HDL.out _ (hM.row (f := fPtr) (rs := ws) 1 rfl)).mono ?_); rintro e W ⟨rfl, hW, hO⟩; clear c0 l0; go_loud (replace hM := (pl_end hM).winPut 1 rfl hO hW (.inl (by cases A <;> rfl))); clear hW hO) | ((with_reducible refine at_store_ ?_); refine wpList_store1_mem rfl _ _ _ rfl 0 g _ _ 0 _ hM rfl rfl rfl rfl rfl (by kernel_rfl) rfl ?_; clear hM; intro W hM))
  replace hM : MemX (blkE (pollL g (.slice A ws.length cap) ws)) w W (plA g (.slice A m cap) :: plW (.slice A m cap) (ws.eraseIdx k) :: ws.map wR) := by
    have h := hM
    unfold plW rowR
    rw [HEL.out]
    exact h
  go_wp2_with fail
  go_ret
  exact ⟨_, rfl, pl_erase hkl hM⟩
end Go.Proofs.Ytgdfjkdcdfmifaa
