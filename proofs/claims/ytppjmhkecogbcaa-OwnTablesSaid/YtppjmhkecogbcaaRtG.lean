/- route: walk, All, New, Find. Written by my genrt.py. -/
import Derived.Test.YtppjmhkecogbcaaRtF
import Derived.Test.YtppjmhkecogbcaaBits
import Derived.IntWalk
import Derived.Test.YtppjmhkecogbcaaRow
import Derived.Test.YtppjmhkecogbcaaSlR
namespace Go.Proofs.Ytppjmhkecogbcaa
open Go.RowKit Go.Lib
set_option linter.unusedVariables false
set_option linter.unusedSimpArgs false


def cPa (p : List Bool) : List Value := [.int .u32 (num p), .int .i64 p.length]
def oR (go : Nat) (v : Value) : Res := atR go 30 [v]
def oL (go : Nat) (v : Value) (rs : List (List Bool)) : List Res := [oR go v, rowR 2 cPa v rs]
theorem elem_Pre : (Try.prog.info? 33).map (fun i => (i.size, i.bytes, i.zero.map (·.cells.size))) = some (2, 16, some 2) := by kernel_rfl
theorem one_cPa (p : List Bool) : ∀ u ∈ cPa p, u.oneCell' = true := by
  intro u hu
  simp only [cPa, List.mem_cons, List.not_mem_nil, or_false] at hu
  rcases hu with rfl | rfl <;> rfl
theorem slice_one {W : World} {b s n : Nat} {v : Value} {cs : List Value} (h : Win W b s v n cs) : Hid (v.cells = [v].toArray) ∧ Hid (v.oneCell' = true) := by
  obtain ⟨A, c, rfl⟩ := h.form
  exact ⟨Lib.hid rfl, Lib.hid rfl⟩

set_option maxRecDepth 100000 in
set_option maxHeartbeats 8000000 in
theorem cl_any (go : Nat) (v : Value) (rs : List (List Bool)) (p : List Bool) (w : World) (hM0 : MemX (blkE (oL go v rs)) w w (oL go v rs)) (hn : rs.length ≤ 100) :
    Calls Try.prog 20 #[.agg #[.int .u32 (num p), .int .i64 p.length], .pointer (some ⟨go, 0, none⟩)] w fun e w' => ∃ v', e = .returned (.tuple #[]) ∧ MemX (blkE (oL go v rs)) w w' (oL go v' (rs ++ [p])) := by
  have hM : MemX (blkE (oL go v rs)) w w [atR go 30 [v], rowR 2 cPa v rs] := hM0
  generalize blkE (oL go v rs) = E at *
  clear hM0
  obtain ⟨A, cap, rfl⟩ := (hM.row (f := cPa) (rs := rs) 1 rfl).form
  go_enter Try.func20, Try.ntmps20
  go_wp2_with (first
    | go_skip
    | ((with_reducible refine at_bslice_ ?_); refine wpList_bslice_mem rfl _ 33 _ rfl Try.underlying30 _ zv_Prefix _ rfl rfl sz_Prefix (Nat.le_of_ble_eq_true rfl) (Nat.le_of_ble_eq_true rfl) hM ?_; clear hM; intro gs W hM; simp only [List.cons_append, List.nil_append] at hM)
    | ((with_reducible refine at_append_ ?_); refine wpList_append_row (f := cPa) rfl _ _ _ 33 rfl Try.underlying30 16 elem_Pre (by decide) 1 3 _ _ _ p hM rfl rfl rfl _ rfl rfl (one_cPa _) (by omega) (by simp only [maxLen]; omega) ?_; clear hM; intro vN W hM; obtain ⟨HV1, HV2⟩ := slice_one (hM.row (f := cPa) (rs := rs ++ [p]) 1 rfl))
    | ((with_reducible refine at_store_ ?_); refine wpList_store1_mem rfl _ _ _ rfl 0 go _ _ 0 vN hM rfl rfl rfl HV1.out HV2.out (by kernel_rfl) rfl ?_; clear hM; intro W hM)
    | ((with_reducible refine at_box_ ?_); refine wpList_box_mem rfl _ _ rfl _ rfl hM ?_; clear hM; intro gb W hM; first | (simp only [List.nil_append] at hM) | (simp only [List.cons_append, List.nil_append] at hM))
    | ((with_reducible refine at_alloc_ (T := 33) ?_); refine wpList_alloc_mem rfl 33 rfl _ zv_Prefix _ rfl hM ?_; clear hM; intro gb W hM; first | (simp only [List.nil_append] at hM) | (simp only [List.cons_append, List.nil_append] at hM))
    | ((with_reducible refine at_load_ (T := 33) ?_); refine at_wanted_ (by rfl) ?_; first | (refine wpList_loadg_mem (by go_simp) 33 _ rfl 0 _ _ _ hM rfl rfl _ Try.underlying33 rfl sz_Prefix ?_) | (refine wpList_loadg_mem (by go_simp) 33 _ rfl 1 _ _ _ hM rfl rfl _ Try.underlying33 rfl sz_Prefix ?_) | (refine wpList_loadg_mem (by go_simp) 33 _ rfl 2 _ _ _ hM rfl rfl _ Try.underlying33 rfl sz_Prefix ?_))
    | ((with_reducible refine at_store_ (T := 33) ?_); first | (refine wpList_store_mem rfl 33 _ _ rfl 0 _ _ _ _ hM rfl rfl rfl rfl sz_Prefix rfl ?_; clear hM; intro W hM; simp only [List.set_cons_zero] at hM) | (refine wpList_store_mem rfl 33 _ _ rfl 1 _ _ _ _ hM rfl rfl rfl rfl sz_Prefix rfl ?_; clear hM; intro W hM; simp only [List.set_cons_succ, List.set_cons_zero] at hM) | (refine wpList_store_mem rfl 33 _ _ rfl 2 _ _ _ _ hM rfl rfl rfl rfl sz_Prefix rfl ?_; clear hM; intro W hM; simp only [List.set_cons_succ, List.set_cons_zero] at hM))
    | ((with_reducible refine at_load_ ?_); refine at_wanted_ (by rfl) ?_; first | (refine wpList_loadf_mem (by go_simp) _ _ rfl (by kernel_rfl) 0 _ _ _ _ _ hM rfl rfl (by first | rfl | assumption) ?_) | (refine wpList_loadf_mem (by go_simp) _ _ rfl (by kernel_rfl) 1 _ _ _ _ _ hM rfl rfl (by first | rfl | assumption) ?_) | (refine wpList_loadf_mem (by go_simp) _ _ rfl (by kernel_rfl) 2 _ _ _ _ _ hM rfl rfl (by first | rfl | assumption) ?_))
    | ((with_reducible refine at_store_ ?_); first | (refine wpList_store1_mem rfl _ _ _ rfl 0 _ _ _ _ _ hM rfl rfl (by first | ((conv => lhs; whnf); done) | ((conv => lhs; whnf); rfl)) (by rfl) (by rfl) (by kernel_rfl) rfl ?_; clear hM; intro W hM; simp only [List.set_cons_succ, List.set_cons_zero] at hM) | (refine wpList_store1_mem rfl _ _ _ rfl 1 _ _ _ _ _ hM rfl rfl (by first | ((conv => lhs; whnf); done) | ((conv => lhs; whnf); rfl)) (by rfl) (by rfl) (by kernel_rfl) rfl ?_; clear hM; intro W hM; simp only [List.set_cons_succ, List.set_cons_zero] at hM) | (refine wpList_store1_mem rfl _ _ _ rfl 2 _ _ _ _ _ hM rfl rfl (by first | ((conv => lhs; whnf); done) | ((conv => lhs; whnf); rfl)) (by rfl) (by rfl) (by kernel_rfl) rfl ?_; clear hM; intro W hM; simp only [List.set_cons_succ, List.set_cons_zero] at hM)))
  (first | go_end0 | (refine bodyPost_ret (results_none rfl _ _ _) rfl ?_))
  exact ⟨rfl, vN, hM.take_ 2⟩


theorem to_front {E : Nat → Prop} {w W : World} (A P R : List Res) (h : MemX E w W (A ++ (P ++ R))) : MemX E w W (P ++ (A ++ R)) := by
  refine h.perm ?_
  rw [← List.append_assoc, ← List.append_assoc]
  exact (List.perm_append_comm).append_right R


theorem shl_at (i : Int) (k : Nat) (hk : k ≤ 31) (hi : i = 0 ∨ i = 1) (W : World) : (Op.shift BinOp.shl IntKind.u32 i IntKind.i64 (IntKind.i64.wrap (31 - (k : Int)))).run Try.prog W = .ok (.int .u32 (i * 2 ^ (31 - k))) W := by
  rw [IntWalk.i64_in _ (by omega)]
  have h2 : (2 : Nat) ^ (31 - k) < 2 ^ 32 := Nat.pow_lt_pow_right (by omega) (by omega)
  obtain ⟨j, hj⟩ : ∃ j : Nat, 31 - (k : Int) = j := ⟨31 - k, by omega⟩
  have hjk : 31 - k = j := by omega
  rw [hj, hjk]
  rw [hjk] at h2
  have e : ((2 ^ j : Nat) : Int) = (2 : Int) ^ j := by simp
  have h3 : (2 : Int) ^ j < 4294967296 := by rw [← e]; omega
  have h4 : 0 ≤ (2 : Int) ^ j := by rw [← e]; exact Int.natCast_nonneg _
  have hj32 : min j 32 = j := Nat.min_eq_left (by omega)
  clear h2 hj hjk e
  rcases hi with rfl | rfl
  · go_simp
    rfl
  · go_simp
    rw [IntKind.wrap_u32]
    omega
theorem or_at0 (p : List Bool) (hp : p.length ≤ 31) : bits BinOp.or IntKind.u32 ((num p : Nat) : Int) 0 = ((num (p ++ [false]) : Nat) : Int) := by
  have hl := num_lt (p := p) (by omega)
  rw [num_snoc, show (0 : Int) = ((0 : Nat) : Int) from rfl, u32_or_nat _ _ (by omega) (by omega)]; simp
theorem or_at1 (p : List Bool) (hp : p.length ≤ 31) : bits BinOp.or IntKind.u32 ((num p : Nat) : Int) (2 ^ (31 - p.length)) = ((num (p ++ [true]) : Nat) : Int) := by
  have h1 := num_facts p (by omega)
  have h2 := two_step (k := p.length) (by omega)
  have h0 : 0 < 2 ^ (31 - p.length) := Nat.pos_of_neZero _
  have h4 : (2 : Nat) ^ (31 - p.length) ≤ 2 ^ 31 := Nat.pow_le_pow_right (by omega) (by omega)
  have hl := num_lt (p := p) (by omega)
  have e : ((2 ^ (31 - p.length) : Nat) : Int) = (2 : Int) ^ (31 - p.length) := by simp
  rw [num_snoc, ← e]
  obtain ⟨c, hc⟩ := Nat.dvd_of_mod_eq_zero h1.1
  simp only [if_true]
  rw [u32_or_nat _ _ (by omega) (by omega)]
  have := nat_or_parts c (2 ^ (31 - p.length)) (32 - p.length) (by omega)
  rw [Nat.mul_comm] at this
  rw [hc, this]
theorem p3 (B o r : Res) (X : List Res) : (B :: o :: r :: X).Perm (o :: r :: B :: X) := (List.Perm.swap o B _).trans (List.Perm.cons o (List.Perm.swap r B _))
theorem w_perm0 (B o r c : Res) (A R : List Res) : (B :: o :: r :: c :: (A ++ R)).Perm (([o, r] ++ A) ++ (B :: c :: R)) := by
  refine (p3 _ _ _ _).trans (List.Perm.cons _ (List.Perm.cons _ ?_))
  show (B :: c :: (A ++ R)).Perm (A ++ (B :: c :: R))
  exact (List.Perm.cons _ List.perm_middle.symm).trans List.perm_middle.symm
theorem w_perm1 (B o r c : Res) (L A : List Res) : (B :: o :: r :: c :: (L ++ A)).Perm (([o, r] ++ A) ++ (B :: c :: L)) :=
  (List.Perm.cons _ (List.Perm.cons _ (List.Perm.cons _ (List.Perm.cons _ List.perm_append_comm)))).trans (w_perm0 B o r c A L)

set_option maxRecDepth 100000 in
set_option maxHeartbeats 8000000 in
theorem walk_any (go : Nat) : ∀ (t : RT) (p : List Bool) (v : Value) (rs : List (List Bool)) (h : t ≠ .nil) (hh : p.length + t.hgt ≤ 33) (hc : rs.length + t.cnt ≤ 64) (w : World) (hM0 : MemX (blkE (oL go v rs ++ t.res)) w w (oL go v rs ++ t.res)),
    Calls Try.prog 19 #[t.ptr, .agg #[.int .u32 (num p), .int .i64 p.length], .func (.func 20) #[] #[.pointer (some ⟨go, 0, none⟩)]] w fun e w' => ∃ v', e = .returned (.tuple #[]) ∧ MemX (blkE (oL go v rs ++ t.res)) w w' (oL go v' (rs ++ t.lst p) ++ t.res)
  | .nil, p, v, rs, h, hh, hc, w, hM0 => absurd rfl h
  | .node g T ext l r s x, p, v, rs, h, hh, hc, w, hM0 => by
    have HL := Lib.hid (fun p v rs h hh hc w hM => walk_any go l p v rs h hh hc w hM)
    have HR := Lib.hid (fun p v rs h hh hc w hM => walk_any go r p v rs h hh hc w hM)
    have hM : MemX (blkE (oL go v rs ++ (RT.node g T ext l r s x).res)) w w (oR go v :: rowR 2 cPa v rs :: atR g T (l.ptr :: r.ptr :: .bool s :: .int .i64 x :: ext) :: (l.res ++ r.res)) := hM0
    generalize blkE (oL go v rs ++ (RT.node g T ext l r s x).res) = E at *
    clear hM0 h
    simp only [RT.hgt] at hh
    simp only [RT.cnt] at hc
    show Calls Try.prog 19 #[.pointer (some ⟨g, 0, none⟩), .agg #[.int .u32 (num p), .int .i64 p.length], .func (.func 20) #[] #[.pointer (some ⟨go, 0, none⟩)]] w _
    go_enter Try.func19, Try.ntmps19
    go_upto_region 1 with (first | go_skip | ((with_reducible refine at_box_ ?_); refine wpList_box_mem rfl _ _ rfl _ rfl hM ?_; clear hM; intro gb W hM))
    replace hM : MemX E w W (atR gb 33 [.int .u32 (num p), .int .i64 p.length] :: oR go v :: rowR 2 cPa v (rs) :: atR g T (l.ptr :: r.ptr :: .bool s :: .int .i64 x :: ext) :: (l.res ++ r.res)) := hM.perm (List.perm_append_comm (l₂ := [_]))
    cases s
    · have c3 := hM.cells 3 rfl
      have l3 := hM.lt 3 rfl
      go_upto_region 2 with (fail)
      clear c3 l3
      obtain ⟨v0, hv0⟩ : ∃ z, z = v := ⟨_, rfl⟩
      subst hv0
      go_upto_region 3 with (fail)
      replace hM : MemX E w W (atR gb 33 [.int .u32 (num p), .int .i64 p.length] :: oR go v0 :: rowR 2 cPa v0 (rs) :: atR g T (l.ptr :: r.ptr :: .bool false :: .int .i64 x :: ext) :: (l.res ++ r.res)) := hM
      have hrs : (rs).length + l.cnt + r.cnt ≤ 64 := by first | (simp at hc; omega) | (rw [List.length_append]; simp at hc ⊢; omega)
      obtain ⟨rs0, hrs0⟩ : ∃ z, z = rs := ⟨_, rfl⟩
      rw [← hrs0] at hrs hM
      have HRS0 := Lib.hid hrs0
      clear hrs0 hc
      have hc := hrs
      clear hrs
      go_upto_region 4 with (first | go_skip | ((with_reducible refine at_load_ ?_); refine at_wanted_ (by rfl) ?_; refine wpList_loads_mem (by go_simp) 65 _ rfl 3 g 0 T _ [l.ptr, r.ptr] hM rfl rfl rfl _ und_kids rfl sz_kids ?_))
      go_loopg [19] 2 (fun gh i wr => ∃ (k : Nat) (v' : Value) (rs' : List (List Bool)), gh = 2 - k ∧ k ≤ 2 ∧ i = .int .i64 k ∧ MemX E w wr (atR gb 33 [.int .u32 (num p), .int .i64 p.length] :: oR go v' :: rowR 2 cPa v' (rs') :: atR g T (l.ptr :: r.ptr :: .bool false :: .int .i64 x :: ext) :: (l.res ++ r.res)) ∧ Hid ((k = 0 ∧ rs' = rs0) ∨ (k = 1 ∧ rs' = rs0 ++ l.lst (p ++ [false])) ∨ (k = 2 ∧ rs' = rs0 ++ (l.lst (p ++ [false]) ++ r.lst (p ++ [true])))))
      case atStart => exact ⟨0, v0, rs0, by omega, by omega, rfl, hM, Lib.hid (.inl ⟨rfl, rfl⟩)⟩
      case round =>
        clear hM
        obtain ⟨k, v', rs', hgk, hk, rfl, hM, HC⟩ := hrel
        have HGK := Lib.hid hgk
        clear hgk
        rcases HC.out with ⟨rfl, h1⟩ | ⟨rfl, h1⟩ | ⟨rfl, h1⟩
        · have HR1 := Lib.hid h1
          have x0 := fun w => idx0 l.ptr r.ptr w
          clear h1 HC
          cases l with
            | nil =>
              simp only [RT.ptr_nil0] at hM x0 ⊢
              go_wp2_with fail
              go_roundg (2 - (0 + 1))
              case measure => have := HGK.out; omega
              case rel => exact ⟨1, v', rs', rfl, by omega, rfl, hM, Lib.hid (.inr (.inl ⟨rfl, by rw [HR1.out]; simp [RT.lst]⟩))⟩
            | node g2 T2 e2 l2 r2 s2 v2 =>
              have hp31 : p.length ≤ 31 := by simp only [RT.hgt] at hh; omega
              have HX := Lib.hid (fun v rs W hM hc => HL.out (p ++ [false]) v rs (by intro h; cases h) (by rw [List.length_append]; simp only [List.length_singleton]; omega) hc W hM)
              have HX := Lib.hid (fun v rs W hM hc => (by
                have h9 := HX.out v rs W hM hc
                rw [show (((p ++ [false]).length : Nat) : Int) = (p.length : Int) + 1 by simp] at h9
                exact h9))
              have hrl : rs'.length + (RT.node g2 T2 e2 l2 r2 s2 v2).cnt ≤ 64 := by rw [HR1.out]; first | omega | (rw [List.length_append, RT.len_lst]; omega)
              have HRL := Lib.hid hrl
              simp only [RT.ptr_node] at *
              generalize hx : RT.node g2 T2 e2 l2 r2 s2 v2 = y at *
              clear hrl hh hc
              go_upto_region 7 with (fail)
              refine wp_region_M [0] [] hM (by kernel_rfl) ?_
              clear hM
              intro wo hM
              refine wpI_takeP (i := 0) (v := ?_) rfl (by kernel_rfl) (by kernel_rfl) (by kernel_rfl) (by first | exact fun _ _ _ h => h | exact fun _ _ _ h => HQ0.out _ _ _ _ _ h) (Or.inl ⟨by rfl, ?hy⟩) ?_
              case hy => (intro W; go_simp; (try with_reducible rfl))
              simp only [Act.put, List.getElem_toArray, List.getElem_cons_succ, List.getElem_cons_zero, List.setIfInBounds_toArray, List.set_cons_zero, List.set_cons_succ]
              refine wpI_takeP (i := 1) (v := ?_) rfl (by kernel_rfl) (by kernel_rfl) (by kernel_rfl) (by first | exact fun _ _ _ h => h | exact fun _ _ _ h => HQ0.out _ _ _ _ _ h) (Or.inl ⟨by rfl, ?hy⟩) ?_
              case hy => (intro W; go_simp; (try with_reducible rfl))
              simp only [Act.put, List.getElem_toArray, List.getElem_cons_succ, List.getElem_cons_zero, List.setIfInBounds_toArray, List.set_cons_zero, List.set_cons_succ]
              refine wpI_take (i := 2) (v := ?_) rfl (by kernel_rfl) (by kernel_rfl) (by kernel_rfl) (by kernel_rfl) (by first | exact fun _ _ _ h => h | exact fun _ _ _ h => HQ0.out _ _ _ _ _ h) ⟨fun r hr => hM.get 0 hr, trivial⟩ (Or.inl ⟨by rfl, ?hy⟩) ?_
              case hy => (rintro W ⟨i0, -⟩; have c0 := (show At W _ _ _ from i0 _ rfl).cell; go_simp; (try with_reducible rfl))
              simp only [Act.put, List.getElem_toArray, List.getElem_cons_succ, List.getElem_cons_zero, List.setIfInBounds_toArray, List.set_cons_zero, List.set_cons_succ]
              refine wpI_takeP (i := 3) (v := ?_) rfl (by kernel_rfl) (by kernel_rfl) (by kernel_rfl) (by first | exact fun _ _ _ h => h | exact fun _ _ _ h => HQ0.out _ _ _ _ _ h) (Or.inl ⟨by rfl, ?hy⟩) ?_
              case hy => (intro W; go_simp; (try with_reducible rfl))
              simp only [Act.put, List.getElem_toArray, List.getElem_cons_succ, List.getElem_cons_zero, List.setIfInBounds_toArray, List.set_cons_zero, List.set_cons_succ]
              refine wpI_takeP (i := 5) (v := ?_) rfl (by kernel_rfl) (by kernel_rfl) (by kernel_rfl) (by first | exact fun _ _ _ h => h | exact fun _ _ _ h => HQ0.out _ _ _ _ _ h) (Or.inl ⟨by rfl, ?hy⟩) ?_
              case hy => (intro W; go_simp; (try with_reducible rfl))
              simp only [Act.put, List.getElem_toArray, List.getElem_cons_succ, List.getElem_cons_zero, List.setIfInBounds_toArray, List.set_cons_zero, List.set_cons_succ]
              refine wpI_take (i := 6) (v := ?_) rfl (by kernel_rfl) (by kernel_rfl) (by kernel_rfl) (by kernel_rfl) (by first | exact fun _ _ _ h => h | exact fun _ _ _ h => HQ0.out _ _ _ _ _ h) ⟨fun r hr => hM.get 0 hr, trivial⟩ (Or.inl ⟨by rfl, ?hy⟩) ?_
              case hy => (rintro W ⟨i0, -⟩; have c0 := (show At W _ _ _ from i0 _ rfl).cell; go_simp; (try with_reducible rfl))
              simp only [Act.put, List.getElem_toArray, List.getElem_cons_succ, List.getElem_cons_zero, List.setIfInBounds_toArray, List.set_cons_zero, List.set_cons_succ]
              refine wpI_takeP (i := 7) (v := ?_) rfl (by kernel_rfl) (by kernel_rfl) (by kernel_rfl) (by first | exact fun _ _ _ h => h | exact fun _ _ _ h => HQ0.out _ _ _ _ _ h) (Or.inl ⟨by rfl, ?hy⟩) ?_
              case hy => (intro W; go_simp; (try with_reducible rfl))
              simp only [Act.put, List.getElem_toArray, List.getElem_cons_succ, List.getElem_cons_zero, List.setIfInBounds_toArray, List.set_cons_zero, List.set_cons_succ]
              refine wpI_takeP (i := 10) (v := ?_) rfl (by kernel_rfl) (by kernel_rfl) (by kernel_rfl) (by first | exact fun _ _ _ h => h | exact fun _ _ _ h => HQ0.out _ _ _ _ _ h) (Or.inl ⟨by rfl, ?hy⟩) ?_
              case hy => (intro W; go_simp; (try with_reducible rfl))
              simp only [Act.put, List.getElem_toArray, List.getElem_cons_succ, List.getElem_cons_zero, List.setIfInBounds_toArray, List.set_cons_zero, List.set_cons_succ]
              refine wpI_take (i := 11) (v := ?_) rfl (by kernel_rfl) (by kernel_rfl) (by kernel_rfl) (by kernel_rfl) (by first | exact fun _ _ _ h => h | exact fun _ _ _ h => HQ0.out _ _ _ _ _ h) ⟨fun r hr => hM.get 0 hr, trivial⟩ (Or.inl ⟨by rfl, ?hy⟩) ?_
              case hy => (rintro W ⟨i0, -⟩; have c0 := (show At W _ _ _ from i0 _ rfl).cell; go_simp; (try with_reducible rfl))
              simp only [Act.put, List.getElem_toArray, List.getElem_cons_succ, List.getElem_cons_zero, List.setIfInBounds_toArray, List.set_cons_zero, List.set_cons_succ]
              refine wpI_takeP (i := 12) (v := ?_) rfl (by kernel_rfl) (by kernel_rfl) (by kernel_rfl) (by first | exact fun _ _ _ h => h | exact fun _ _ _ h => HQ0.out _ _ _ _ _ h) (Or.inl ⟨by rfl, ?hy⟩) ?_
              case hy => (intro W; go_simp; (try with_reducible rfl))
              simp only [Act.put, List.getElem_toArray, List.getElem_cons_succ, List.getElem_cons_zero, List.setIfInBounds_toArray, List.set_cons_zero, List.set_cons_succ]
              refine wpI_takeP (i := 14) (v := ?_) rfl (by kernel_rfl) (by kernel_rfl) (by kernel_rfl) (by first | exact fun _ _ _ h => h | exact fun _ _ _ h => HQ0.out _ _ _ _ _ h) (Or.inl ⟨by rfl, ?hy⟩) ?_
              case hy => (intro W; go_simp; (try with_reducible rfl))
              simp only [Act.put, List.getElem_toArray, List.getElem_cons_succ, List.getElem_cons_zero, List.setIfInBounds_toArray, List.set_cons_zero, List.set_cons_succ]
              refine wpI_one (i := 4) rfl (by kernel_rfl) ?_
              (try simp only [Act.put, List.getElem_toArray, List.getElem_cons_succ, List.getElem_cons_zero, List.setIfInBounds_toArray, List.set_cons_zero, List.set_cons_succ])
              go_wp2_with (first
                  | go_skip
                  | (go_at_call 19; refine (HX.out v' rs' _ (hM.perm (w_perm0 _ _ _ _ _ _)).hand HRL.out).mono ?_; rintro e W ⟨v2, rfl, hM6⟩; replace hM := ((hM.perm (w_perm0 _ _ _ _ _ _)).back hM6).perm (w_perm0 _ _ _ _ _ _).symm; clear hM6)
                  | ((with_reducible refine at_box_ ?_); refine wpList_box_mem rfl _ _ rfl _ rfl hM ?_; clear hM; intro gb W hM; first | (simp only [List.nil_append] at hM) | (simp only [List.cons_append, List.nil_append] at hM))
                  | ((with_reducible refine at_load_ ?_); refine at_wanted_ (by rfl) ?_; first | (refine wpList_loadf_mem (by go_simp) _ _ rfl (by kernel_rfl) 0 _ _ _ _ _ hM rfl rfl (by first | rfl | assumption) ?_) | (refine wpList_loadf_mem (by go_simp) _ _ rfl (by kernel_rfl) 1 _ _ _ _ _ hM rfl rfl (by first | rfl | assumption) ?_) | (refine wpList_loadf_mem (by go_simp) _ _ rfl (by kernel_rfl) 2 _ _ _ _ _ hM rfl rfl (by first | rfl | assumption) ?_) | (refine wpList_loadf_mem (by go_simp) _ _ rfl (by kernel_rfl) 3 _ _ _ _ _ hM rfl rfl (by first | rfl | assumption) ?_))
                  | ((with_reducible refine at_store_ ?_); first | (refine wpList_store1_mem rfl _ _ _ rfl 0 _ _ _ _ _ hM rfl rfl (by first | ((conv => lhs; whnf); done) | ((conv => lhs; whnf); rfl)) (by rfl) (by rfl) (by kernel_rfl) rfl ?_; clear hM; intro W hM; simp only [List.set_cons_succ, List.set_cons_zero] at hM) | (refine wpList_store1_mem rfl _ _ _ rfl 1 _ _ _ _ _ hM rfl rfl (by first | ((conv => lhs; whnf); done) | ((conv => lhs; whnf); rfl)) (by rfl) (by rfl) (by kernel_rfl) rfl ?_; clear hM; intro W hM; simp only [List.set_cons_succ, List.set_cons_zero] at hM) | (refine wpList_store1_mem rfl _ _ _ rfl 2 _ _ _ _ _ hM rfl rfl (by first | ((conv => lhs; whnf); done) | ((conv => lhs; whnf); rfl)) (by rfl) (by rfl) (by kernel_rfl) rfl ?_; clear hM; intro W hM; simp only [List.set_cons_succ, List.set_cons_zero] at hM) | (refine wpList_store1_mem rfl _ _ _ rfl 3 _ _ _ _ _ hM rfl rfl (by first | ((conv => lhs; whnf); done) | ((conv => lhs; whnf); rfl)) (by rfl) (by rfl) (by kernel_rfl) rfl ?_; clear hM; intro W hM; simp only [List.set_cons_succ, List.set_cons_zero] at hM)))
              refine contI_normal ⟨fun r hr => hM.get 0 hr, trivial⟩ ?_
              (try simp only [Act.put, List.getElem_toArray, List.getElem_cons_succ, List.getElem_cons_zero, List.setIfInBounds_toArray, List.set_cons_zero, List.set_cons_succ])
              refine wpI_takeP (i := 8) rfl (by kernel_rfl) (by kernel_rfl) (by kernel_rfl) (by first | exact fun _ _ _ h => h | exact fun _ _ _ h => HQ0.out _ _ _ _ _ h) ((show Yields _ _ _ (.int .u32 (0 : Int)) _ from .inl ⟨by rfl, fun W => by go_simp; rw [shl_at _ _ hp31 (by decide) W]; simp [Result.andThen]⟩)) ?_
              simp only [Act.put, List.getElem_toArray, List.getElem_cons_succ, List.getElem_cons_zero, List.setIfInBounds_toArray, List.set_cons_zero, List.set_cons_succ]
              (try simp only [Bool.not_true, Bool.not_false])
              refine wpI_takeP (i := 9) rfl (by kernel_rfl) (by kernel_rfl) (by kernel_rfl) (by first | exact fun _ _ _ h => h | exact fun _ _ _ h => HQ0.out _ _ _ _ _ h) ((show Yields _ _ _ (.int .u32 ((num (p ++ [false]) : Nat) : Int)) _ from .inl ⟨by rfl, fun W => by go_simp; first | exact or_at0 p hp31 | exact or_at1 p hp31⟩)) ?_
              simp only [Act.put, List.getElem_toArray, List.getElem_cons_succ, List.getElem_cons_zero, List.setIfInBounds_toArray, List.set_cons_zero, List.set_cons_succ]
              (try simp only [Bool.not_true, Bool.not_false])
              refine wpI_takeP (i := 13) (v := ?_) rfl (by kernel_rfl) (by kernel_rfl) (by kernel_rfl) (by first | exact fun _ _ _ h => h | exact fun _ _ _ h => HQ0.out _ _ _ _ _ h) (Or.inl ⟨by rfl, ?hy⟩) ?_
              case hy => (intro W; go_simp; (try with_reducible rfl))
              simp only [Act.put, List.getElem_toArray, List.getElem_cons_succ, List.getElem_cons_zero, List.setIfInBounds_toArray, List.set_cons_zero, List.set_cons_succ]
              refine wpI_one (i := 15) rfl (by kernel_rfl) ?_
              (try simp only [Act.put, List.getElem_toArray, List.getElem_cons_succ, List.getElem_cons_zero, List.setIfInBounds_toArray, List.set_cons_zero, List.set_cons_succ])
              go_wp2_with (first
                  | go_skip
                  | (go_at_call 19; refine (HX.out v' rs' _ (hM.perm (w_perm0 _ _ _ _ _ _)).hand HRL.out).mono ?_; rintro e W ⟨v2, rfl, hM6⟩; replace hM := ((hM.perm (w_perm0 _ _ _ _ _ _)).back hM6).perm (w_perm0 _ _ _ _ _ _).symm; clear hM6)
                  | ((with_reducible refine at_box_ ?_); refine wpList_box_mem rfl _ _ rfl _ rfl hM ?_; clear hM; intro gb W hM; first | (simp only [List.nil_append] at hM) | (simp only [List.cons_append, List.nil_append] at hM))
                  | ((with_reducible refine at_load_ ?_); refine at_wanted_ (by rfl) ?_; first | (refine wpList_loadf_mem (by go_simp) _ _ rfl (by kernel_rfl) 0 _ _ _ _ _ hM rfl rfl (by first | rfl | assumption) ?_) | (refine wpList_loadf_mem (by go_simp) _ _ rfl (by kernel_rfl) 1 _ _ _ _ _ hM rfl rfl (by first | rfl | assumption) ?_) | (refine wpList_loadf_mem (by go_simp) _ _ rfl (by kernel_rfl) 2 _ _ _ _ _ hM rfl rfl (by first | rfl | assumption) ?_) | (refine wpList_loadf_mem (by go_simp) _ _ rfl (by kernel_rfl) 3 _ _ _ _ _ hM rfl rfl (by first | rfl | assumption) ?_))
                  | ((with_reducible refine at_store_ ?_); first | (refine wpList_store1_mem rfl _ _ _ rfl 0 _ _ _ _ _ hM rfl rfl (by first | ((conv => lhs; whnf); done) | ((conv => lhs; whnf); rfl)) (by rfl) (by rfl) (by kernel_rfl) rfl ?_; clear hM; intro W hM; simp only [List.set_cons_succ, List.set_cons_zero] at hM) | (refine wpList_store1_mem rfl _ _ _ rfl 1 _ _ _ _ _ hM rfl rfl (by first | ((conv => lhs; whnf); done) | ((conv => lhs; whnf); rfl)) (by rfl) (by rfl) (by kernel_rfl) rfl ?_; clear hM; intro W hM; simp only [List.set_cons_succ, List.set_cons_zero] at hM) | (refine wpList_store1_mem rfl _ _ _ rfl 2 _ _ _ _ _ hM rfl rfl (by first | ((conv => lhs; whnf); done) | ((conv => lhs; whnf); rfl)) (by rfl) (by rfl) (by kernel_rfl) rfl ?_; clear hM; intro W hM; simp only [List.set_cons_succ, List.set_cons_zero] at hM) | (refine wpList_store1_mem rfl _ _ _ rfl 3 _ _ _ _ _ hM rfl rfl (by first | ((conv => lhs; whnf); done) | ((conv => lhs; whnf); rfl)) (by rfl) (by rfl) (by kernel_rfl) rfl ?_; clear hM; intro W hM; simp only [List.set_cons_succ, List.set_cons_zero] at hM)))
              refine contI_normal ⟨fun r hr => hM.get 0 hr, trivial⟩ ?_
              (try simp only [Act.put, List.getElem_toArray, List.getElem_cons_succ, List.getElem_cons_zero, List.setIfInBounds_toArray, List.set_cons_zero, List.set_cons_succ])
              refine wpI_done (by kernel_rfl) ?_ _
              (try simp only [Act.put, List.getElem_toArray, List.getElem_cons_succ, List.getElem_cons_zero, List.setIfInBounds_toArray, List.set_cons_zero, List.set_cons_succ])
              go_wp2_with fail
              go_roundg (2 - (0 + 1))
              case measure => have := HGK.out; omega
              case rel => exact ⟨1, v2, _, rfl, by omega, rfl, hM, Lib.hid (.inr (.inl ⟨rfl, by rw [HR1.out]⟩))⟩
        · have HR1 := Lib.hid h1
          have x1 := fun w => idx1 l.ptr r.ptr w
          clear h1 HC
          cases r with
            | nil =>
              simp only [RT.ptr_nil0] at hM x1 ⊢
              go_wp2_with fail
              go_roundg (2 - (1 + 1))
              case measure => have := HGK.out; omega
              case rel => exact ⟨2, v', rs', rfl, by omega, rfl, hM, Lib.hid (.inr (.inr ⟨rfl, by rw [HR1.out]; simp [RT.lst]⟩))⟩
            | node g2 T2 e2 l2 r2 s2 v2 =>
              have hp31 : p.length ≤ 31 := by simp only [RT.hgt] at hh; omega
              have HX := Lib.hid (fun v rs W hM hc => HR.out (p ++ [true]) v rs (by intro h; cases h) (by rw [List.length_append]; simp only [List.length_singleton]; omega) hc W hM)
              have HX := Lib.hid (fun v rs W hM hc => (by
                have h9 := HX.out v rs W hM hc
                rw [show (((p ++ [true]).length : Nat) : Int) = (p.length : Int) + 1 by simp] at h9
                exact h9))
              have hrl : rs'.length + (RT.node g2 T2 e2 l2 r2 s2 v2).cnt ≤ 64 := by rw [HR1.out]; first | omega | (rw [List.length_append, RT.len_lst]; omega)
              have HRL := Lib.hid hrl
              simp only [RT.ptr_node] at *
              generalize hx : RT.node g2 T2 e2 l2 r2 s2 v2 = y at *
              clear hrl hh hc
              go_upto_region 7 with (fail)
              refine wp_region_M [0] [] hM (by kernel_rfl) ?_
              clear hM
              intro wo hM
              refine wpI_takeP (i := 0) (v := ?_) rfl (by kernel_rfl) (by kernel_rfl) (by kernel_rfl) (by first | exact fun _ _ _ h => h | exact fun _ _ _ h => HQ0.out _ _ _ _ _ h) (Or.inl ⟨by rfl, ?hy⟩) ?_
              case hy => (intro W; go_simp; (try with_reducible rfl))
              simp only [Act.put, List.getElem_toArray, List.getElem_cons_succ, List.getElem_cons_zero, List.setIfInBounds_toArray, List.set_cons_zero, List.set_cons_succ]
              refine wpI_takeP (i := 1) (v := ?_) rfl (by kernel_rfl) (by kernel_rfl) (by kernel_rfl) (by first | exact fun _ _ _ h => h | exact fun _ _ _ h => HQ0.out _ _ _ _ _ h) (Or.inl ⟨by rfl, ?hy⟩) ?_
              case hy => (intro W; go_simp; (try with_reducible rfl))
              simp only [Act.put, List.getElem_toArray, List.getElem_cons_succ, List.getElem_cons_zero, List.setIfInBounds_toArray, List.set_cons_zero, List.set_cons_succ]
              refine wpI_take (i := 2) (v := ?_) rfl (by kernel_rfl) (by kernel_rfl) (by kernel_rfl) (by kernel_rfl) (by first | exact fun _ _ _ h => h | exact fun _ _ _ h => HQ0.out _ _ _ _ _ h) ⟨fun r hr => hM.get 0 hr, trivial⟩ (Or.inl ⟨by rfl, ?hy⟩) ?_
              case hy => (rintro W ⟨i0, -⟩; have c0 := (show At W _ _ _ from i0 _ rfl).cell; go_simp; (try with_reducible rfl))
              simp only [Act.put, List.getElem_toArray, List.getElem_cons_succ, List.getElem_cons_zero, List.setIfInBounds_toArray, List.set_cons_zero, List.set_cons_succ]
              refine wpI_takeP (i := 3) (v := ?_) rfl (by kernel_rfl) (by kernel_rfl) (by kernel_rfl) (by first | exact fun _ _ _ h => h | exact fun _ _ _ h => HQ0.out _ _ _ _ _ h) (Or.inl ⟨by rfl, ?hy⟩) ?_
              case hy => (intro W; go_simp; (try with_reducible rfl))
              simp only [Act.put, List.getElem_toArray, List.getElem_cons_succ, List.getElem_cons_zero, List.setIfInBounds_toArray, List.set_cons_zero, List.set_cons_succ]
              refine wpI_takeP (i := 5) (v := ?_) rfl (by kernel_rfl) (by kernel_rfl) (by kernel_rfl) (by first | exact fun _ _ _ h => h | exact fun _ _ _ h => HQ0.out _ _ _ _ _ h) (Or.inl ⟨by rfl, ?hy⟩) ?_
              case hy => (intro W; go_simp; (try with_reducible rfl))
              simp only [Act.put, List.getElem_toArray, List.getElem_cons_succ, List.getElem_cons_zero, List.setIfInBounds_toArray, List.set_cons_zero, List.set_cons_succ]
              refine wpI_take (i := 6) (v := ?_) rfl (by kernel_rfl) (by kernel_rfl) (by kernel_rfl) (by kernel_rfl) (by first | exact fun _ _ _ h => h | exact fun _ _ _ h => HQ0.out _ _ _ _ _ h) ⟨fun r hr => hM.get 0 hr, trivial⟩ (Or.inl ⟨by rfl, ?hy⟩) ?_
              case hy => (rintro W ⟨i0, -⟩; have c0 := (show At W _ _ _ from i0 _ rfl).cell; go_simp; (try with_reducible rfl))
              simp only [Act.put, List.getElem_toArray, List.getElem_cons_succ, List.getElem_cons_zero, List.setIfInBounds_toArray, List.set_cons_zero, List.set_cons_succ]
              refine wpI_takeP (i := 7) (v := ?_) rfl (by kernel_rfl) (by kernel_rfl) (by kernel_rfl) (by first | exact fun _ _ _ h => h | exact fun _ _ _ h => HQ0.out _ _ _ _ _ h) (Or.inl ⟨by rfl, ?hy⟩) ?_
              case hy => (intro W; go_simp; (try with_reducible rfl))
              simp only [Act.put, List.getElem_toArray, List.getElem_cons_succ, List.getElem_cons_zero, List.setIfInBounds_toArray, List.set_cons_zero, List.set_cons_succ]
              refine wpI_takeP (i := 10) (v := ?_) rfl (by kernel_rfl) (by kernel_rfl) (by kernel_rfl) (by first | exact fun _ _ _ h => h | exact fun _ _ _ h => HQ0.out _ _ _ _ _ h) (Or.inl ⟨by rfl, ?hy⟩) ?_
              case hy => (intro W; go_simp; (try with_reducible rfl))
              simp only [Act.put, List.getElem_toArray, List.getElem_cons_succ, List.getElem_cons_zero, List.setIfInBounds_toArray, List.set_cons_zero, List.set_cons_succ]
              refine wpI_take (i := 11) (v := ?_) rfl (by kernel_rfl) (by kernel_rfl) (by kernel_rfl) (by kernel_rfl) (by first | exact fun _ _ _ h => h | exact fun _ _ _ h => HQ0.out _ _ _ _ _ h) ⟨fun r hr => hM.get 0 hr, trivial⟩ (Or.inl ⟨by rfl, ?hy⟩) ?_
              case hy => (rintro W ⟨i0, -⟩; have c0 := (show At W _ _ _ from i0 _ rfl).cell; go_simp; (try with_reducible rfl))
              simp only [Act.put, List.getElem_toArray, List.getElem_cons_succ, List.getElem_cons_zero, List.setIfInBounds_toArray, List.set_cons_zero, List.set_cons_succ]
              refine wpI_takeP (i := 12) (v := ?_) rfl (by kernel_rfl) (by kernel_rfl) (by kernel_rfl) (by first | exact fun _ _ _ h => h | exact fun _ _ _ h => HQ0.out _ _ _ _ _ h) (Or.inl ⟨by rfl, ?hy⟩) ?_
              case hy => (intro W; go_simp; (try with_reducible rfl))
              simp only [Act.put, List.getElem_toArray, List.getElem_cons_succ, List.getElem_cons_zero, List.setIfInBounds_toArray, List.set_cons_zero, List.set_cons_succ]
              refine wpI_takeP (i := 14) (v := ?_) rfl (by kernel_rfl) (by kernel_rfl) (by kernel_rfl) (by first | exact fun _ _ _ h => h | exact fun _ _ _ h => HQ0.out _ _ _ _ _ h) (Or.inl ⟨by rfl, ?hy⟩) ?_
              case hy => (intro W; go_simp; (try with_reducible rfl))
              simp only [Act.put, List.getElem_toArray, List.getElem_cons_succ, List.getElem_cons_zero, List.setIfInBounds_toArray, List.set_cons_zero, List.set_cons_succ]
              refine wpI_one (i := 4) rfl (by kernel_rfl) ?_
              (try simp only [Act.put, List.getElem_toArray, List.getElem_cons_succ, List.getElem_cons_zero, List.setIfInBounds_toArray, List.set_cons_zero, List.set_cons_succ])
              go_wp2_with (first
                  | go_skip
                  | (go_at_call 19; refine (HX.out v' rs' _ (hM.perm (w_perm1 _ _ _ _ _ _)).hand HRL.out).mono ?_; rintro e W ⟨v2, rfl, hM6⟩; replace hM := ((hM.perm (w_perm1 _ _ _ _ _ _)).back hM6).perm (w_perm1 _ _ _ _ _ _).symm; clear hM6)
                  | ((with_reducible refine at_box_ ?_); refine wpList_box_mem rfl _ _ rfl _ rfl hM ?_; clear hM; intro gb W hM; first | (simp only [List.nil_append] at hM) | (simp only [List.cons_append, List.nil_append] at hM))
                  | ((with_reducible refine at_load_ ?_); refine at_wanted_ (by rfl) ?_; first | (refine wpList_loadf_mem (by go_simp) _ _ rfl (by kernel_rfl) 0 _ _ _ _ _ hM rfl rfl (by first | rfl | assumption) ?_) | (refine wpList_loadf_mem (by go_simp) _ _ rfl (by kernel_rfl) 1 _ _ _ _ _ hM rfl rfl (by first | rfl | assumption) ?_) | (refine wpList_loadf_mem (by go_simp) _ _ rfl (by kernel_rfl) 2 _ _ _ _ _ hM rfl rfl (by first | rfl | assumption) ?_) | (refine wpList_loadf_mem (by go_simp) _ _ rfl (by kernel_rfl) 3 _ _ _ _ _ hM rfl rfl (by first | rfl | assumption) ?_))
                  | ((with_reducible refine at_store_ ?_); first | (refine wpList_store1_mem rfl _ _ _ rfl 0 _ _ _ _ _ hM rfl rfl (by first | ((conv => lhs; whnf); done) | ((conv => lhs; whnf); rfl)) (by rfl) (by rfl) (by kernel_rfl) rfl ?_; clear hM; intro W hM; simp only [List.set_cons_succ, List.set_cons_zero] at hM) | (refine wpList_store1_mem rfl _ _ _ rfl 1 _ _ _ _ _ hM rfl rfl (by first | ((conv => lhs; whnf); done) | ((conv => lhs; whnf); rfl)) (by rfl) (by rfl) (by kernel_rfl) rfl ?_; clear hM; intro W hM; simp only [List.set_cons_succ, List.set_cons_zero] at hM) | (refine wpList_store1_mem rfl _ _ _ rfl 2 _ _ _ _ _ hM rfl rfl (by first | ((conv => lhs; whnf); done) | ((conv => lhs; whnf); rfl)) (by rfl) (by rfl) (by kernel_rfl) rfl ?_; clear hM; intro W hM; simp only [List.set_cons_succ, List.set_cons_zero] at hM) | (refine wpList_store1_mem rfl _ _ _ rfl 3 _ _ _ _ _ hM rfl rfl (by first | ((conv => lhs; whnf); done) | ((conv => lhs; whnf); rfl)) (by rfl) (by rfl) (by kernel_rfl) rfl ?_; clear hM; intro W hM; simp only [List.set_cons_succ, List.set_cons_zero] at hM)))
              refine contI_normal ⟨fun r hr => hM.get 0 hr, trivial⟩ ?_
              (try simp only [Act.put, List.getElem_toArray, List.getElem_cons_succ, List.getElem_cons_zero, List.setIfInBounds_toArray, List.set_cons_zero, List.set_cons_succ])
              refine wpI_takeP (i := 8) rfl (by kernel_rfl) (by kernel_rfl) (by kernel_rfl) (by first | exact fun _ _ _ h => h | exact fun _ _ _ h => HQ0.out _ _ _ _ _ h) ((show Yields _ _ _ (.int .u32 (2 ^ (31 - p.length) : Int)) _ from .inl ⟨by rfl, fun W => by go_simp; rw [shl_at _ _ hp31 (by decide) W]; simp [Result.andThen]⟩)) ?_
              simp only [Act.put, List.getElem_toArray, List.getElem_cons_succ, List.getElem_cons_zero, List.setIfInBounds_toArray, List.set_cons_zero, List.set_cons_succ]
              (try simp only [Bool.not_true, Bool.not_false])
              refine wpI_takeP (i := 9) rfl (by kernel_rfl) (by kernel_rfl) (by kernel_rfl) (by first | exact fun _ _ _ h => h | exact fun _ _ _ h => HQ0.out _ _ _ _ _ h) ((show Yields _ _ _ (.int .u32 ((num (p ++ [true]) : Nat) : Int)) _ from .inl ⟨by rfl, fun W => by go_simp; first | exact or_at0 p hp31 | exact or_at1 p hp31⟩)) ?_
              simp only [Act.put, List.getElem_toArray, List.getElem_cons_succ, List.getElem_cons_zero, List.setIfInBounds_toArray, List.set_cons_zero, List.set_cons_succ]
              (try simp only [Bool.not_true, Bool.not_false])
              refine wpI_takeP (i := 13) (v := ?_) rfl (by kernel_rfl) (by kernel_rfl) (by kernel_rfl) (by first | exact fun _ _ _ h => h | exact fun _ _ _ h => HQ0.out _ _ _ _ _ h) (Or.inl ⟨by rfl, ?hy⟩) ?_
              case hy => (intro W; go_simp; (try with_reducible rfl))
              simp only [Act.put, List.getElem_toArray, List.getElem_cons_succ, List.getElem_cons_zero, List.setIfInBounds_toArray, List.set_cons_zero, List.set_cons_succ]
              refine wpI_one (i := 15) rfl (by kernel_rfl) ?_
              (try simp only [Act.put, List.getElem_toArray, List.getElem_cons_succ, List.getElem_cons_zero, List.setIfInBounds_toArray, List.set_cons_zero, List.set_cons_succ])
              go_wp2_with (first
                  | go_skip
                  | (go_at_call 19; refine (HX.out v' rs' _ (hM.perm (w_perm1 _ _ _ _ _ _)).hand HRL.out).mono ?_; rintro e W ⟨v2, rfl, hM6⟩; replace hM := ((hM.perm (w_perm1 _ _ _ _ _ _)).back hM6).perm (w_perm1 _ _ _ _ _ _).symm; clear hM6)
                  | ((with_reducible refine at_box_ ?_); refine wpList_box_mem rfl _ _ rfl _ rfl hM ?_; clear hM; intro gb W hM; first | (simp only [List.nil_append] at hM) | (simp only [List.cons_append, List.nil_append] at hM))
                  | ((with_reducible refine at_load_ ?_); refine at_wanted_ (by rfl) ?_; first | (refine wpList_loadf_mem (by go_simp) _ _ rfl (by kernel_rfl) 0 _ _ _ _ _ hM rfl rfl (by first | rfl | assumption) ?_) | (refine wpList_loadf_mem (by go_simp) _ _ rfl (by kernel_rfl) 1 _ _ _ _ _ hM rfl rfl (by first | rfl | assumption) ?_) | (refine wpList_loadf_mem (by go_simp) _ _ rfl (by kernel_rfl) 2 _ _ _ _ _ hM rfl rfl (by first | rfl | assumption) ?_) | (refine wpList_loadf_mem (by go_simp) _ _ rfl (by kernel_rfl) 3 _ _ _ _ _ hM rfl rfl (by first | rfl | assumption) ?_))
                  | ((with_reducible refine at_store_ ?_); first | (refine wpList_store1_mem rfl _ _ _ rfl 0 _ _ _ _ _ hM rfl rfl (by first | ((conv => lhs; whnf); done) | ((conv => lhs; whnf); rfl)) (by rfl) (by rfl) (by kernel_rfl) rfl ?_; clear hM; intro W hM; simp only [List.set_cons_succ, List.set_cons_zero] at hM) | (refine wpList_store1_mem rfl _ _ _ rfl 1 _ _ _ _ _ hM rfl rfl (by first | ((conv => lhs; whnf); done) | ((conv => lhs; whnf); rfl)) (by rfl) (by rfl) (by kernel_rfl) rfl ?_; clear hM; intro W hM; simp only [List.set_cons_succ, List.set_cons_zero] at hM) | (refine wpList_store1_mem rfl _ _ _ rfl 2 _ _ _ _ _ hM rfl rfl (by first | ((conv => lhs; whnf); done) | ((conv => lhs; whnf); rfl)) (by rfl) (by rfl) (by kernel_rfl) rfl ?_; clear hM; intro W hM; simp only [List.set_cons_succ, List.set_cons_zero] at hM) | (refine wpList_store1_mem rfl _ _ _ rfl 3 _ _ _ _ _ hM rfl rfl (by first | ((conv => lhs; whnf); done) | ((conv => lhs; whnf); rfl)) (by rfl) (by rfl) (by kernel_rfl) rfl ?_; clear hM; intro W hM; simp only [List.set_cons_succ, List.set_cons_zero] at hM)))
              refine contI_normal ⟨fun r hr => hM.get 0 hr, trivial⟩ ?_
              (try simp only [Act.put, List.getElem_toArray, List.getElem_cons_succ, List.getElem_cons_zero, List.setIfInBounds_toArray, List.set_cons_zero, List.set_cons_succ])
              refine wpI_done (by kernel_rfl) ?_ _
              (try simp only [Act.put, List.getElem_toArray, List.getElem_cons_succ, List.getElem_cons_zero, List.setIfInBounds_toArray, List.set_cons_zero, List.set_cons_succ])
              go_wp2_with fail
              go_roundg (2 - (1 + 1))
              case measure => have := HGK.out; omega
              case rel => exact ⟨2, v2, _, rfl, by omega, rfl, hM, Lib.hid (.inr (.inr ⟨rfl, by rw [HR1.out, List.append_assoc]⟩))⟩
        · have HR1 := Lib.hid h1
          clear h1 HC
          go_wp2_with fail
          (first | go_end0 | (refine bodyPost_ret (results_none rfl _ _ _) rfl ?_))
          replace hM := (show MemX E w _ ([atR gb 33 [.int .u32 (num p), .int .i64 p.length]] ++ (oL go v' rs' ++ (RT.node g T ext l r false x).res)) from hM).drop_
          have hrl : rs' = rs ++ (RT.node g T ext l r false x).lst p := by
            rw [HR1.out, HRS0.out]; simp [RT.lst]
          rw [hrl] at hM
          exact ⟨v', rfl, hM⟩
    · have c3 := hM.cells 3 rfl
      have l3 := hM.lt 3 rfl
      go_upto_region 2 with (fail)
      clear c3 l3
      have HCLS := Lib.hid (fun W (h : MemX (blkE (oL go v rs)) W W (oL go v rs)) => cl_any go v rs p W h (by omega))
      go_upto_region 3 with         (first
          | go_skip
          | (go_at_call 20; refine (HCLS.out _ (to_front [atR gb 33 [.int .u32 (num p), .int .i64 p.length]] (oL go v rs) _ hM).hand).mono ?_; rintro e W ⟨v0, rfl, hM6⟩; replace hM := to_front (oL go v0 (rs ++ [p])) [atR gb 33 [.int .u32 (num p), .int .i64 p.length]] _ ((to_front [atR gb 33 [.int .u32 (num p), .int .i64 p.length]] (oL go v rs) _ hM).back hM6); clear hM6)
          | ((with_reducible refine at_box_ ?_); refine wpList_box_mem rfl _ _ rfl _ rfl hM ?_; clear hM; intro gb W hM; first | (simp only [List.nil_append] at hM) | (simp only [List.cons_append, List.nil_append] at hM))
          | ((with_reducible refine at_alloc_ (T := 33) ?_); refine wpList_alloc_mem rfl 33 rfl _ zv_Prefix _ rfl hM ?_; clear hM; intro gb W hM; first | (simp only [List.nil_append] at hM) | (simp only [List.cons_append, List.nil_append] at hM))
          | ((with_reducible refine at_load_ (T := 33) ?_); refine at_wanted_ (by rfl) ?_; first | (refine wpList_loadg_mem (by go_simp) 33 _ rfl 0 _ _ _ hM rfl rfl _ Try.underlying33 rfl sz_Prefix ?_) | (refine wpList_loadg_mem (by go_simp) 33 _ rfl 1 _ _ _ hM rfl rfl _ Try.underlying33 rfl sz_Prefix ?_) | (refine wpList_loadg_mem (by go_simp) 33 _ rfl 2 _ _ _ hM rfl rfl _ Try.underlying33 rfl sz_Prefix ?_) | (refine wpList_loadg_mem (by go_simp) 33 _ rfl 3 _ _ _ hM rfl rfl _ Try.underlying33 rfl sz_Prefix ?_))
          | ((with_reducible refine at_store_ (T := 33) ?_); first | (refine wpList_store_mem rfl 33 _ _ rfl 0 _ _ _ _ hM rfl rfl rfl rfl sz_Prefix rfl ?_; clear hM; intro W hM; simp only [List.set_cons_zero] at hM) | (refine wpList_store_mem rfl 33 _ _ rfl 1 _ _ _ _ hM rfl rfl rfl rfl sz_Prefix rfl ?_; clear hM; intro W hM; simp only [List.set_cons_succ, List.set_cons_zero] at hM) | (refine wpList_store_mem rfl 33 _ _ rfl 2 _ _ _ _ hM rfl rfl rfl rfl sz_Prefix rfl ?_; clear hM; intro W hM; simp only [List.set_cons_succ, List.set_cons_zero] at hM) | (refine wpList_store_mem rfl 33 _ _ rfl 3 _ _ _ _ hM rfl rfl rfl rfl sz_Prefix rfl ?_; clear hM; intro W hM; simp only [List.set_cons_succ, List.set_cons_zero] at hM)))
      replace hM : MemX E w W (atR gb 33 [.int .u32 (num p), .int .i64 p.length] :: oR go v0 :: rowR 2 cPa v0 (rs ++ [p]) :: atR g T (l.ptr :: r.ptr :: .bool true :: .int .i64 x :: ext) :: (l.res ++ r.res)) := hM
      have hrs : (rs ++ [p]).length + l.cnt + r.cnt ≤ 64 := by first | (simp at hc; omega) | (rw [List.length_append]; simp at hc ⊢; omega)
      obtain ⟨rs0, hrs0⟩ : ∃ z, z = rs ++ [p] := ⟨_, rfl⟩
      rw [← hrs0] at hrs hM
      have HRS0 := Lib.hid hrs0
      clear hrs0 hc
      have hc := hrs
      clear hrs
      go_upto_region 4 with (first | go_skip | ((with_reducible refine at_load_ ?_); refine at_wanted_ (by rfl) ?_; refine wpList_loads_mem (by go_simp) 65 _ rfl 3 g 0 T _ [l.ptr, r.ptr] hM rfl rfl rfl _ und_kids rfl sz_kids ?_))
      go_loopg [19] 2 (fun gh i wr => ∃ (k : Nat) (v' : Value) (rs' : List (List Bool)), gh = 2 - k ∧ k ≤ 2 ∧ i = .int .i64 k ∧ MemX E w wr (atR gb 33 [.int .u32 (num p), .int .i64 p.length] :: oR go v' :: rowR 2 cPa v' (rs') :: atR g T (l.ptr :: r.ptr :: .bool true :: .int .i64 x :: ext) :: (l.res ++ r.res)) ∧ Hid ((k = 0 ∧ rs' = rs0) ∨ (k = 1 ∧ rs' = rs0 ++ l.lst (p ++ [false])) ∨ (k = 2 ∧ rs' = rs0 ++ (l.lst (p ++ [false]) ++ r.lst (p ++ [true])))))
      case atStart => exact ⟨0, v0, rs0, by omega, by omega, rfl, hM, Lib.hid (.inl ⟨rfl, rfl⟩)⟩
      case round =>
        clear hM
        obtain ⟨k, v', rs', hgk, hk, rfl, hM, HC⟩ := hrel
        have HGK := Lib.hid hgk
        clear hgk
        rcases HC.out with ⟨rfl, h1⟩ | ⟨rfl, h1⟩ | ⟨rfl, h1⟩
        · have HR1 := Lib.hid h1
          have x0 := fun w => idx0 l.ptr r.ptr w
          clear h1 HC
          cases l with
            | nil =>
              simp only [RT.ptr_nil0] at hM x0 ⊢
              go_wp2_with fail
              go_roundg (2 - (0 + 1))
              case measure => have := HGK.out; omega
              case rel => exact ⟨1, v', rs', rfl, by omega, rfl, hM, Lib.hid (.inr (.inl ⟨rfl, by rw [HR1.out]; simp [RT.lst]⟩))⟩
            | node g2 T2 e2 l2 r2 s2 v2 =>
              have hp31 : p.length ≤ 31 := by simp only [RT.hgt] at hh; omega
              have HX := Lib.hid (fun v rs W hM hc => HL.out (p ++ [false]) v rs (by intro h; cases h) (by rw [List.length_append]; simp only [List.length_singleton]; omega) hc W hM)
              have HX := Lib.hid (fun v rs W hM hc => (by
                have h9 := HX.out v rs W hM hc
                rw [show (((p ++ [false]).length : Nat) : Int) = (p.length : Int) + 1 by simp] at h9
                exact h9))
              have hrl : rs'.length + (RT.node g2 T2 e2 l2 r2 s2 v2).cnt ≤ 64 := by rw [HR1.out]; first | omega | (rw [List.length_append, RT.len_lst]; omega)
              have HRL := Lib.hid hrl
              simp only [RT.ptr_node] at *
              generalize hx : RT.node g2 T2 e2 l2 r2 s2 v2 = y at *
              clear hrl hh hc
              go_upto_region 7 with (fail)
              refine wp_region_M [0] [] hM (by kernel_rfl) ?_
              clear hM
              intro wo hM
              refine wpI_takeP (i := 0) (v := ?_) rfl (by kernel_rfl) (by kernel_rfl) (by kernel_rfl) (by first | exact fun _ _ _ h => h | exact fun _ _ _ h => HQ0.out _ _ _ _ _ h) (Or.inl ⟨by rfl, ?hy⟩) ?_
              case hy => (intro W; go_simp; (try with_reducible rfl))
              simp only [Act.put, List.getElem_toArray, List.getElem_cons_succ, List.getElem_cons_zero, List.setIfInBounds_toArray, List.set_cons_zero, List.set_cons_succ]
              refine wpI_takeP (i := 1) (v := ?_) rfl (by kernel_rfl) (by kernel_rfl) (by kernel_rfl) (by first | exact fun _ _ _ h => h | exact fun _ _ _ h => HQ0.out _ _ _ _ _ h) (Or.inl ⟨by rfl, ?hy⟩) ?_
              case hy => (intro W; go_simp; (try with_reducible rfl))
              simp only [Act.put, List.getElem_toArray, List.getElem_cons_succ, List.getElem_cons_zero, List.setIfInBounds_toArray, List.set_cons_zero, List.set_cons_succ]
              refine wpI_take (i := 2) (v := ?_) rfl (by kernel_rfl) (by kernel_rfl) (by kernel_rfl) (by kernel_rfl) (by first | exact fun _ _ _ h => h | exact fun _ _ _ h => HQ0.out _ _ _ _ _ h) ⟨fun r hr => hM.get 0 hr, trivial⟩ (Or.inl ⟨by rfl, ?hy⟩) ?_
              case hy => (rintro W ⟨i0, -⟩; have c0 := (show At W _ _ _ from i0 _ rfl).cell; go_simp; (try with_reducible rfl))
              simp only [Act.put, List.getElem_toArray, List.getElem_cons_succ, List.getElem_cons_zero, List.setIfInBounds_toArray, List.set_cons_zero, List.set_cons_succ]
              refine wpI_takeP (i := 3) (v := ?_) rfl (by kernel_rfl) (by kernel_rfl) (by kernel_rfl) (by first | exact fun _ _ _ h => h | exact fun _ _ _ h => HQ0.out _ _ _ _ _ h) (Or.inl ⟨by rfl, ?hy⟩) ?_
              case hy => (intro W; go_simp; (try with_reducible rfl))
              simp only [Act.put, List.getElem_toArray, List.getElem_cons_succ, List.getElem_cons_zero, List.setIfInBounds_toArray, List.set_cons_zero, List.set_cons_succ]
              refine wpI_takeP (i := 5) (v := ?_) rfl (by kernel_rfl) (by kernel_rfl) (by kernel_rfl) (by first | exact fun _ _ _ h => h | exact fun _ _ _ h => HQ0.out _ _ _ _ _ h) (Or.inl ⟨by rfl, ?hy⟩) ?_
              case hy => (intro W; go_simp; (try with_reducible rfl))
              simp only [Act.put, List.getElem_toArray, List.getElem_cons_succ, List.getElem_cons_zero, List.setIfInBounds_toArray, List.set_cons_zero, List.set_cons_succ]
              refine wpI_take (i := 6) (v := ?_) rfl (by kernel_rfl) (by kernel_rfl) (by kernel_rfl) (by kernel_rfl) (by first | exact fun _ _ _ h => h | exact fun _ _ _ h => HQ0.out _ _ _ _ _ h) ⟨fun r hr => hM.get 0 hr, trivial⟩ (Or.inl ⟨by rfl, ?hy⟩) ?_
              case hy => (rintro W ⟨i0, -⟩; have c0 := (show At W _ _ _ from i0 _ rfl).cell; go_simp; (try with_reducible rfl))
              simp only [Act.put, List.getElem_toArray, List.getElem_cons_succ, List.getElem_cons_zero, List.setIfInBounds_toArray, List.set_cons_zero, List.set_cons_succ]
              refine wpI_takeP (i := 7) (v := ?_) rfl (by kernel_rfl) (by kernel_rfl) (by kernel_rfl) (by first | exact fun _ _ _ h => h | exact fun _ _ _ h => HQ0.out _ _ _ _ _ h) (Or.inl ⟨by rfl, ?hy⟩) ?_
              case hy => (intro W; go_simp; (try with_reducible rfl))
              simp only [Act.put, List.getElem_toArray, List.getElem_cons_succ, List.getElem_cons_zero, List.setIfInBounds_toArray, List.set_cons_zero, List.set_cons_succ]
              refine wpI_takeP (i := 10) (v := ?_) rfl (by kernel_rfl) (by kernel_rfl) (by kernel_rfl) (by first | exact fun _ _ _ h => h | exact fun _ _ _ h => HQ0.out _ _ _ _ _ h) (Or.inl ⟨by rfl, ?hy⟩) ?_
              case hy => (intro W; go_simp; (try with_reducible rfl))
              simp only [Act.put, List.getElem_toArray, List.getElem_cons_succ, List.getElem_cons_zero, List.setIfInBounds_toArray, List.set_cons_zero, List.set_cons_succ]
              refine wpI_take (i := 11) (v := ?_) rfl (by kernel_rfl) (by kernel_rfl) (by kernel_rfl) (by kernel_rfl) (by first | exact fun _ _ _ h => h | exact fun _ _ _ h => HQ0.out _ _ _ _ _ h) ⟨fun r hr => hM.get 0 hr, trivial⟩ (Or.inl ⟨by rfl, ?hy⟩) ?_
              case hy => (rintro W ⟨i0, -⟩; have c0 := (show At W _ _ _ from i0 _ rfl).cell; go_simp; (try with_reducible rfl))
              simp only [Act.put, List.getElem_toArray, List.getElem_cons_succ, List.getElem_cons_zero, List.setIfInBounds_toArray, List.set_cons_zero, List.set_cons_succ]
              refine wpI_takeP (i := 12) (v := ?_) rfl (by kernel_rfl) (by kernel_rfl) (by kernel_rfl) (by first | exact fun _ _ _ h => h | exact fun _ _ _ h => HQ0.out _ _ _ _ _ h) (Or.inl ⟨by rfl, ?hy⟩) ?_
              case hy => (intro W; go_simp; (try with_reducible rfl))
              simp only [Act.put, List.getElem_toArray, List.getElem_cons_succ, List.getElem_cons_zero, List.setIfInBounds_toArray, List.set_cons_zero, List.set_cons_succ]
              refine wpI_takeP (i := 14) (v := ?_) rfl (by kernel_rfl) (by kernel_rfl) (by kernel_rfl) (by first | exact fun _ _ _ h => h | exact fun _ _ _ h => HQ0.out _ _ _ _ _ h) (Or.inl ⟨by rfl, ?hy⟩) ?_
              case hy => (intro W; go_simp; (try with_reducible rfl))
              simp only [Act.put, List.getElem_toArray, List.getElem_cons_succ, List.getElem_cons_zero, List.setIfInBounds_toArray, List.set_cons_zero, List.set_cons_succ]
              refine wpI_one (i := 4) rfl (by kernel_rfl) ?_
              (try simp only [Act.put, List.getElem_toArray, List.getElem_cons_succ, List.getElem_cons_zero, List.setIfInBounds_toArray, List.set_cons_zero, List.set_cons_succ])
              go_wp2_with (first
                  | go_skip
                  | (go_at_call 19; refine (HX.out v' rs' _ (hM.perm (w_perm0 _ _ _ _ _ _)).hand HRL.out).mono ?_; rintro e W ⟨v2, rfl, hM6⟩; replace hM := ((hM.perm (w_perm0 _ _ _ _ _ _)).back hM6).perm (w_perm0 _ _ _ _ _ _).symm; clear hM6)
                  | ((with_reducible refine at_box_ ?_); refine wpList_box_mem rfl _ _ rfl _ rfl hM ?_; clear hM; intro gb W hM; first | (simp only [List.nil_append] at hM) | (simp only [List.cons_append, List.nil_append] at hM))
                  | ((with_reducible refine at_load_ ?_); refine at_wanted_ (by rfl) ?_; first | (refine wpList_loadf_mem (by go_simp) _ _ rfl (by kernel_rfl) 0 _ _ _ _ _ hM rfl rfl (by first | rfl | assumption) ?_) | (refine wpList_loadf_mem (by go_simp) _ _ rfl (by kernel_rfl) 1 _ _ _ _ _ hM rfl rfl (by first | rfl | assumption) ?_) | (refine wpList_loadf_mem (by go_simp) _ _ rfl (by kernel_rfl) 2 _ _ _ _ _ hM rfl rfl (by first | rfl | assumption) ?_) | (refine wpList_loadf_mem (by go_simp) _ _ rfl (by kernel_rfl) 3 _ _ _ _ _ hM rfl rfl (by first | rfl | assumption) ?_))
                  | ((with_reducible refine at_store_ ?_); first | (refine wpList_store1_mem rfl _ _ _ rfl 0 _ _ _ _ _ hM rfl rfl (by first | ((conv => lhs; whnf); done) | ((conv => lhs; whnf); rfl)) (by rfl) (by rfl) (by kernel_rfl) rfl ?_; clear hM; intro W hM; simp only [List.set_cons_succ, List.set_cons_zero] at hM) | (refine wpList_store1_mem rfl _ _ _ rfl 1 _ _ _ _ _ hM rfl rfl (by first | ((conv => lhs; whnf); done) | ((conv => lhs; whnf); rfl)) (by rfl) (by rfl) (by kernel_rfl) rfl ?_; clear hM; intro W hM; simp only [List.set_cons_succ, List.set_cons_zero] at hM) | (refine wpList_store1_mem rfl _ _ _ rfl 2 _ _ _ _ _ hM rfl rfl (by first | ((conv => lhs; whnf); done) | ((conv => lhs; whnf); rfl)) (by rfl) (by rfl) (by kernel_rfl) rfl ?_; clear hM; intro W hM; simp only [List.set_cons_succ, List.set_cons_zero] at hM) | (refine wpList_store1_mem rfl _ _ _ rfl 3 _ _ _ _ _ hM rfl rfl (by first | ((conv => lhs; whnf); done) | ((conv => lhs; whnf); rfl)) (by rfl) (by rfl) (by kernel_rfl) rfl ?_; clear hM; intro W hM; simp only [List.set_cons_succ, List.set_cons_zero] at hM)))
              refine contI_normal ⟨fun r hr => hM.get 0 hr, trivial⟩ ?_
              (try simp only [Act.put, List.getElem_toArray, List.getElem_cons_succ, List.getElem_cons_zero, List.setIfInBounds_toArray, List.set_cons_zero, List.set_cons_succ])
              refine wpI_takeP (i := 8) rfl (by kernel_rfl) (by kernel_rfl) (by kernel_rfl) (by first | exact fun _ _ _ h => h | exact fun _ _ _ h => HQ0.out _ _ _ _ _ h) ((show Yields _ _ _ (.int .u32 (0 : Int)) _ from .inl ⟨by rfl, fun W => by go_simp; rw [shl_at _ _ hp31 (by decide) W]; simp [Result.andThen]⟩)) ?_
              simp only [Act.put, List.getElem_toArray, List.getElem_cons_succ, List.getElem_cons_zero, List.setIfInBounds_toArray, List.set_cons_zero, List.set_cons_succ]
              (try simp only [Bool.not_true, Bool.not_false])
              refine wpI_takeP (i := 9) rfl (by kernel_rfl) (by kernel_rfl) (by kernel_rfl) (by first | exact fun _ _ _ h => h | exact fun _ _ _ h => HQ0.out _ _ _ _ _ h) ((show Yields _ _ _ (.int .u32 ((num (p ++ [false]) : Nat) : Int)) _ from .inl ⟨by rfl, fun W => by go_simp; first | exact or_at0 p hp31 | exact or_at1 p hp31⟩)) ?_
              simp only [Act.put, List.getElem_toArray, List.getElem_cons_succ, List.getElem_cons_zero, List.setIfInBounds_toArray, List.set_cons_zero, List.set_cons_succ]
              (try simp only [Bool.not_true, Bool.not_false])
              refine wpI_takeP (i := 13) (v := ?_) rfl (by kernel_rfl) (by kernel_rfl) (by kernel_rfl) (by first | exact fun _ _ _ h => h | exact fun _ _ _ h => HQ0.out _ _ _ _ _ h) (Or.inl ⟨by rfl, ?hy⟩) ?_
              case hy => (intro W; go_simp; (try with_reducible rfl))
              simp only [Act.put, List.getElem_toArray, List.getElem_cons_succ, List.getElem_cons_zero, List.setIfInBounds_toArray, List.set_cons_zero, List.set_cons_succ]
              refine wpI_one (i := 15) rfl (by kernel_rfl) ?_
              (try simp only [Act.put, List.getElem_toArray, List.getElem_cons_succ, List.getElem_cons_zero, List.setIfInBounds_toArray, List.set_cons_zero, List.set_cons_succ])
              go_wp2_with (first
                  | go_skip
                  | (go_at_call 19; refine (HX.out v' rs' _ (hM.perm (w_perm0 _ _ _ _ _ _)).hand HRL.out).mono ?_; rintro e W ⟨v2, rfl, hM6⟩; replace hM := ((hM.perm (w_perm0 _ _ _ _ _ _)).back hM6).perm (w_perm0 _ _ _ _ _ _).symm; clear hM6)
                  | ((with_reducible refine at_box_ ?_); refine wpList_box_mem rfl _ _ rfl _ rfl hM ?_; clear hM; intro gb W hM; first | (simp only [List.nil_append] at hM) | (simp only [List.cons_append, List.nil_append] at hM))
                  | ((with_reducible refine at_load_ ?_); refine at_wanted_ (by rfl) ?_; first | (refine wpList_loadf_mem (by go_simp) _ _ rfl (by kernel_rfl) 0 _ _ _ _ _ hM rfl rfl (by first | rfl | assumption) ?_) | (refine wpList_loadf_mem (by go_simp) _ _ rfl (by kernel_rfl) 1 _ _ _ _ _ hM rfl rfl (by first | rfl | assumption) ?_) | (refine wpList_loadf_mem (by go_simp) _ _ rfl (by kernel_rfl) 2 _ _ _ _ _ hM rfl rfl (by first | rfl | assumption) ?_) | (refine wpList_loadf_mem (by go_simp) _ _ rfl (by kernel_rfl) 3 _ _ _ _ _ hM rfl rfl (by first | rfl | assumption) ?_))
                  | ((with_reducible refine at_store_ ?_); first | (refine wpList_store1_mem rfl _ _ _ rfl 0 _ _ _ _ _ hM rfl rfl (by first | ((conv => lhs; whnf); done) | ((conv => lhs; whnf); rfl)) (by rfl) (by rfl) (by kernel_rfl) rfl ?_; clear hM; intro W hM; simp only [List.set_cons_succ, List.set_cons_zero] at hM) | (refine wpList_store1_mem rfl _ _ _ rfl 1 _ _ _ _ _ hM rfl rfl (by first | ((conv => lhs; whnf); done) | ((conv => lhs; whnf); rfl)) (by rfl) (by rfl) (by kernel_rfl) rfl ?_; clear hM; intro W hM; simp only [List.set_cons_succ, List.set_cons_zero] at hM) | (refine wpList_store1_mem rfl _ _ _ rfl 2 _ _ _ _ _ hM rfl rfl (by first | ((conv => lhs; whnf); done) | ((conv => lhs; whnf); rfl)) (by rfl) (by rfl) (by kernel_rfl) rfl ?_; clear hM; intro W hM; simp only [List.set_cons_succ, List.set_cons_zero] at hM) | (refine wpList_store1_mem rfl _ _ _ rfl 3 _ _ _ _ _ hM rfl rfl (by first | ((conv => lhs; whnf); done) | ((conv => lhs; whnf); rfl)) (by rfl) (by rfl) (by kernel_rfl) rfl ?_; clear hM; intro W hM; simp only [List.set_cons_succ, List.set_cons_zero] at hM)))
              refine contI_normal ⟨fun r hr => hM.get 0 hr, trivial⟩ ?_
              (try simp only [Act.put, List.getElem_toArray, List.getElem_cons_succ, List.getElem_cons_zero, List.setIfInBounds_toArray, List.set_cons_zero, List.set_cons_succ])
              refine wpI_done (by kernel_rfl) ?_ _
              (try simp only [Act.put, List.getElem_toArray, List.getElem_cons_succ, List.getElem_cons_zero, List.setIfInBounds_toArray, List.set_cons_zero, List.set_cons_succ])
              go_wp2_with fail
              go_roundg (2 - (0 + 1))
              case measure => have := HGK.out; omega
              case rel => exact ⟨1, v2, _, rfl, by omega, rfl, hM, Lib.hid (.inr (.inl ⟨rfl, by rw [HR1.out]⟩))⟩
        · have HR1 := Lib.hid h1
          have x1 := fun w => idx1 l.ptr r.ptr w
          clear h1 HC
          cases r with
            | nil =>
              simp only [RT.ptr_nil0] at hM x1 ⊢
              go_wp2_with fail
              go_roundg (2 - (1 + 1))
              case measure => have := HGK.out; omega
              case rel => exact ⟨2, v', rs', rfl, by omega, rfl, hM, Lib.hid (.inr (.inr ⟨rfl, by rw [HR1.out]; simp [RT.lst]⟩))⟩
            | node g2 T2 e2 l2 r2 s2 v2 =>
              have hp31 : p.length ≤ 31 := by simp only [RT.hgt] at hh; omega
              have HX := Lib.hid (fun v rs W hM hc => HR.out (p ++ [true]) v rs (by intro h; cases h) (by rw [List.length_append]; simp only [List.length_singleton]; omega) hc W hM)
              have HX := Lib.hid (fun v rs W hM hc => (by
                have h9 := HX.out v rs W hM hc
                rw [show (((p ++ [true]).length : Nat) : Int) = (p.length : Int) + 1 by simp] at h9
                exact h9))
              have hrl : rs'.length + (RT.node g2 T2 e2 l2 r2 s2 v2).cnt ≤ 64 := by rw [HR1.out]; first | omega | (rw [List.length_append, RT.len_lst]; omega)
              have HRL := Lib.hid hrl
              simp only [RT.ptr_node] at *
              generalize hx : RT.node g2 T2 e2 l2 r2 s2 v2 = y at *
              clear hrl hh hc
              go_upto_region 7 with (fail)
              refine wp_region_M [0] [] hM (by kernel_rfl) ?_
              clear hM
              intro wo hM
              refine wpI_takeP (i := 0) (v := ?_) rfl (by kernel_rfl) (by kernel_rfl) (by kernel_rfl) (by first | exact fun _ _ _ h => h | exact fun _ _ _ h => HQ0.out _ _ _ _ _ h) (Or.inl ⟨by rfl, ?hy⟩) ?_
              case hy => (intro W; go_simp; (try with_reducible rfl))
              simp only [Act.put, List.getElem_toArray, List.getElem_cons_succ, List.getElem_cons_zero, List.setIfInBounds_toArray, List.set_cons_zero, List.set_cons_succ]
              refine wpI_takeP (i := 1) (v := ?_) rfl (by kernel_rfl) (by kernel_rfl) (by kernel_rfl) (by first | exact fun _ _ _ h => h | exact fun _ _ _ h => HQ0.out _ _ _ _ _ h) (Or.inl ⟨by rfl, ?hy⟩) ?_
              case hy => (intro W; go_simp; (try with_reducible rfl))
              simp only [Act.put, List.getElem_toArray, List.getElem_cons_succ, List.getElem_cons_zero, List.setIfInBounds_toArray, List.set_cons_zero, List.set_cons_succ]
              refine wpI_take (i := 2) (v := ?_) rfl (by kernel_rfl) (by kernel_rfl) (by kernel_rfl) (by kernel_rfl) (by first | exact fun _ _ _ h => h | exact fun _ _ _ h => HQ0.out _ _ _ _ _ h) ⟨fun r hr => hM.get 0 hr, trivial⟩ (Or.inl ⟨by rfl, ?hy⟩) ?_
              case hy => (rintro W ⟨i0, -⟩; have c0 := (show At W _ _ _ from i0 _ rfl).cell; go_simp; (try with_reducible rfl))
              simp only [Act.put, List.getElem_toArray, List.getElem_cons_succ, List.getElem_cons_zero, List.setIfInBounds_toArray, List.set_cons_zero, List.set_cons_succ]
              refine wpI_takeP (i := 3) (v := ?_) rfl (by kernel_rfl) (by kernel_rfl) (by kernel_rfl) (by first | exact fun _ _ _ h => h | exact fun _ _ _ h => HQ0.out _ _ _ _ _ h) (Or.inl ⟨by rfl, ?hy⟩) ?_
              case hy => (intro W; go_simp; (try with_reducible rfl))
              simp only [Act.put, List.getElem_toArray, List.getElem_cons_succ, List.getElem_cons_zero, List.setIfInBounds_toArray, List.set_cons_zero, List.set_cons_succ]
              refine wpI_takeP (i := 5) (v := ?_) rfl (by kernel_rfl) (by kernel_rfl) (by kernel_rfl) (by first | exact fun _ _ _ h => h | exact fun _ _ _ h => HQ0.out _ _ _ _ _ h) (Or.inl ⟨by rfl, ?hy⟩) ?_
              case hy => (intro W; go_simp; (try with_reducible rfl))
              simp only [Act.put, List.getElem_toArray, List.getElem_cons_succ, List.getElem_cons_zero, List.setIfInBounds_toArray, List.set_cons_zero, List.set_cons_succ]
              refine wpI_take (i := 6) (v := ?_) rfl (by kernel_rfl) (by kernel_rfl) (by kernel_rfl) (by kernel_rfl) (by first | exact fun _ _ _ h => h | exact fun _ _ _ h => HQ0.out _ _ _ _ _ h) ⟨fun r hr => hM.get 0 hr, trivial⟩ (Or.inl ⟨by rfl, ?hy⟩) ?_
              case hy => (rintro W ⟨i0, -⟩; have c0 := (show At W _ _ _ from i0 _ rfl).cell; go_simp; (try with_reducible rfl))
              simp only [Act.put, List.getElem_toArray, List.getElem_cons_succ, List.getElem_cons_zero, List.setIfInBounds_toArray, List.set_cons_zero, List.set_cons_succ]
              refine wpI_takeP (i := 7) (v := ?_) rfl (by kernel_rfl) (by kernel_rfl) (by kernel_rfl) (by first | exact fun _ _ _ h => h | exact fun _ _ _ h => HQ0.out _ _ _ _ _ h) (Or.inl ⟨by rfl, ?hy⟩) ?_
              case hy => (intro W; go_simp; (try with_reducible rfl))
              simp only [Act.put, List.getElem_toArray, List.getElem_cons_succ, List.getElem_cons_zero, List.setIfInBounds_toArray, List.set_cons_zero, List.set_cons_succ]
              refine wpI_takeP (i := 10) (v := ?_) rfl (by kernel_rfl) (by kernel_rfl) (by kernel_rfl) (by first | exact fun _ _ _ h => h | exact fun _ _ _ h => HQ0.out _ _ _ _ _ h) (Or.inl ⟨by rfl, ?hy⟩) ?_
              case hy => (intro W; go_simp; (try with_reducible rfl))
              simp only [Act.put, List.getElem_toArray, List.getElem_cons_succ, List.getElem_cons_zero, List.setIfInBounds_toArray, List.set_cons_zero, List.set_cons_succ]
              refine wpI_take (i := 11) (v := ?_) rfl (by kernel_rfl) (by kernel_rfl) (by kernel_rfl) (by kernel_rfl) (by first | exact fun _ _ _ h => h | exact fun _ _ _ h => HQ0.out _ _ _ _ _ h) ⟨fun r hr => hM.get 0 hr, trivial⟩ (Or.inl ⟨by rfl, ?hy⟩) ?_
              case hy => (rintro W ⟨i0, -⟩; have c0 := (show At W _ _ _ from i0 _ rfl).cell; go_simp; (try with_reducible rfl))
              simp only [Act.put, List.getElem_toArray, List.getElem_cons_succ, List.getElem_cons_zero, List.setIfInBounds_toArray, List.set_cons_zero, List.set_cons_succ]
              refine wpI_takeP (i := 12) (v := ?_) rfl (by kernel_rfl) (by kernel_rfl) (by kernel_rfl) (by first | exact fun _ _ _ h => h | exact fun _ _ _ h => HQ0.out _ _ _ _ _ h) (Or.inl ⟨by rfl, ?hy⟩) ?_
              case hy => (intro W; go_simp; (try with_reducible rfl))
              simp only [Act.put, List.getElem_toArray, List.getElem_cons_succ, List.getElem_cons_zero, List.setIfInBounds_toArray, List.set_cons_zero, List.set_cons_succ]
              refine wpI_takeP (i := 14) (v := ?_) rfl (by kernel_rfl) (by kernel_rfl) (by kernel_rfl) (by first | exact fun _ _ _ h => h | exact fun _ _ _ h => HQ0.out _ _ _ _ _ h) (Or.inl ⟨by rfl, ?hy⟩) ?_
              case hy => (intro W; go_simp; (try with_reducible rfl))
              simp only [Act.put, List.getElem_toArray, List.getElem_cons_succ, List.getElem_cons_zero, List.setIfInBounds_toArray, List.set_cons_zero, List.set_cons_succ]
              refine wpI_one (i := 4) rfl (by kernel_rfl) ?_
              (try simp only [Act.put, List.getElem_toArray, List.getElem_cons_succ, List.getElem_cons_zero, List.setIfInBounds_toArray, List.set_cons_zero, List.set_cons_succ])
              go_wp2_with (first
                  | go_skip
                  | (go_at_call 19; refine (HX.out v' rs' _ (hM.perm (w_perm1 _ _ _ _ _ _)).hand HRL.out).mono ?_; rintro e W ⟨v2, rfl, hM6⟩; replace hM := ((hM.perm (w_perm1 _ _ _ _ _ _)).back hM6).perm (w_perm1 _ _ _ _ _ _).symm; clear hM6)
                  | ((with_reducible refine at_box_ ?_); refine wpList_box_mem rfl _ _ rfl _ rfl hM ?_; clear hM; intro gb W hM; first | (simp only [List.nil_append] at hM) | (simp only [List.cons_append, List.nil_append] at hM))
                  | ((with_reducible refine at_load_ ?_); refine at_wanted_ (by rfl) ?_; first | (refine wpList_loadf_mem (by go_simp) _ _ rfl (by kernel_rfl) 0 _ _ _ _ _ hM rfl rfl (by first | rfl | assumption) ?_) | (refine wpList_loadf_mem (by go_simp) _ _ rfl (by kernel_rfl) 1 _ _ _ _ _ hM rfl rfl (by first | rfl | assumption) ?_) | (refine wpList_loadf_mem (by go_simp) _ _ rfl (by kernel_rfl) 2 _ _ _ _ _ hM rfl rfl (by first | rfl | assumption) ?_) | (refine wpList_loadf_mem (by go_simp) _ _ rfl (by kernel_rfl) 3 _ _ _ _ _ hM rfl rfl (by first | rfl | assumption) ?_))
                  | ((with_reducible refine at_store_ ?_); first | (refine wpList_store1_mem rfl _ _ _ rfl 0 _ _ _ _ _ hM rfl rfl (by first | ((conv => lhs; whnf); done) | ((conv => lhs; whnf); rfl)) (by rfl) (by rfl) (by kernel_rfl) rfl ?_; clear hM; intro W hM; simp only [List.set_cons_succ, List.set_cons_zero] at hM) | (refine wpList_store1_mem rfl _ _ _ rfl 1 _ _ _ _ _ hM rfl rfl (by first | ((conv => lhs; whnf); done) | ((conv => lhs; whnf); rfl)) (by rfl) (by rfl) (by kernel_rfl) rfl ?_; clear hM; intro W hM; simp only [List.set_cons_succ, List.set_cons_zero] at hM) | (refine wpList_store1_mem rfl _ _ _ rfl 2 _ _ _ _ _ hM rfl rfl (by first | ((conv => lhs; whnf); done) | ((conv => lhs; whnf); rfl)) (by rfl) (by rfl) (by kernel_rfl) rfl ?_; clear hM; intro W hM; simp only [List.set_cons_succ, List.set_cons_zero] at hM) | (refine wpList_store1_mem rfl _ _ _ rfl 3 _ _ _ _ _ hM rfl rfl (by first | ((conv => lhs; whnf); done) | ((conv => lhs; whnf); rfl)) (by rfl) (by rfl) (by kernel_rfl) rfl ?_; clear hM; intro W hM; simp only [List.set_cons_succ, List.set_cons_zero] at hM)))
              refine contI_normal ⟨fun r hr => hM.get 0 hr, trivial⟩ ?_
              (try simp only [Act.put, List.getElem_toArray, List.getElem_cons_succ, List.getElem_cons_zero, List.setIfInBounds_toArray, List.set_cons_zero, List.set_cons_succ])
              refine wpI_takeP (i := 8) rfl (by kernel_rfl) (by kernel_rfl) (by kernel_rfl) (by first | exact fun _ _ _ h => h | exact fun _ _ _ h => HQ0.out _ _ _ _ _ h) ((show Yields _ _ _ (.int .u32 (2 ^ (31 - p.length) : Int)) _ from .inl ⟨by rfl, fun W => by go_simp; rw [shl_at _ _ hp31 (by decide) W]; simp [Result.andThen]⟩)) ?_
              simp only [Act.put, List.getElem_toArray, List.getElem_cons_succ, List.getElem_cons_zero, List.setIfInBounds_toArray, List.set_cons_zero, List.set_cons_succ]
              (try simp only [Bool.not_true, Bool.not_false])
              refine wpI_takeP (i := 9) rfl (by kernel_rfl) (by kernel_rfl) (by kernel_rfl) (by first | exact fun _ _ _ h => h | exact fun _ _ _ h => HQ0.out _ _ _ _ _ h) ((show Yields _ _ _ (.int .u32 ((num (p ++ [true]) : Nat) : Int)) _ from .inl ⟨by rfl, fun W => by go_simp; first | exact or_at0 p hp31 | exact or_at1 p hp31⟩)) ?_
              simp only [Act.put, List.getElem_toArray, List.getElem_cons_succ, List.getElem_cons_zero, List.setIfInBounds_toArray, List.set_cons_zero, List.set_cons_succ]
              (try simp only [Bool.not_true, Bool.not_false])
              refine wpI_takeP (i := 13) (v := ?_) rfl (by kernel_rfl) (by kernel_rfl) (by kernel_rfl) (by first | exact fun _ _ _ h => h | exact fun _ _ _ h => HQ0.out _ _ _ _ _ h) (Or.inl ⟨by rfl, ?hy⟩) ?_
              case hy => (intro W; go_simp; (try with_reducible rfl))
              simp only [Act.put, List.getElem_toArray, List.getElem_cons_succ, List.getElem_cons_zero, List.setIfInBounds_toArray, List.set_cons_zero, List.set_cons_succ]
              refine wpI_one (i := 15) rfl (by kernel_rfl) ?_
              (try simp only [Act.put, List.getElem_toArray, List.getElem_cons_succ, List.getElem_cons_zero, List.setIfInBounds_toArray, List.set_cons_zero, List.set_cons_succ])
              go_wp2_with (first
                  | go_skip
                  | (go_at_call 19; refine (HX.out v' rs' _ (hM.perm (w_perm1 _ _ _ _ _ _)).hand HRL.out).mono ?_; rintro e W ⟨v2, rfl, hM6⟩; replace hM := ((hM.perm (w_perm1 _ _ _ _ _ _)).back hM6).perm (w_perm1 _ _ _ _ _ _).symm; clear hM6)
                  | ((with_reducible refine at_box_ ?_); refine wpList_box_mem rfl _ _ rfl _ rfl hM ?_; clear hM; intro gb W hM; first | (simp only [List.nil_append] at hM) | (simp only [List.cons_append, List.nil_append] at hM))
                  | ((with_reducible refine at_load_ ?_); refine at_wanted_ (by rfl) ?_; first | (refine wpList_loadf_mem (by go_simp) _ _ rfl (by kernel_rfl) 0 _ _ _ _ _ hM rfl rfl (by first | rfl | assumption) ?_) | (refine wpList_loadf_mem (by go_simp) _ _ rfl (by kernel_rfl) 1 _ _ _ _ _ hM rfl rfl (by first | rfl | assumption) ?_) | (refine wpList_loadf_mem (by go_simp) _ _ rfl (by kernel_rfl) 2 _ _ _ _ _ hM rfl rfl (by first | rfl | assumption) ?_) | (refine wpList_loadf_mem (by go_simp) _ _ rfl (by kernel_rfl) 3 _ _ _ _ _ hM rfl rfl (by first | rfl | assumption) ?_))
                  | ((with_reducible refine at_store_ ?_); first | (refine wpList_store1_mem rfl _ _ _ rfl 0 _ _ _ _ _ hM rfl rfl (by first | ((conv => lhs; whnf); done) | ((conv => lhs; whnf); rfl)) (by rfl) (by rfl) (by kernel_rfl) rfl ?_; clear hM; intro W hM; simp only [List.set_cons_succ, List.set_cons_zero] at hM) | (refine wpList_store1_mem rfl _ _ _ rfl 1 _ _ _ _ _ hM rfl rfl (by first | ((conv => lhs; whnf); done) | ((conv => lhs; whnf); rfl)) (by rfl) (by rfl) (by kernel_rfl) rfl ?_; clear hM; intro W hM; simp only [List.set_cons_succ, List.set_cons_zero] at hM) | (refine wpList_store1_mem rfl _ _ _ rfl 2 _ _ _ _ _ hM rfl rfl (by first | ((conv => lhs; whnf); done) | ((conv => lhs; whnf); rfl)) (by rfl) (by rfl) (by kernel_rfl) rfl ?_; clear hM; intro W hM; simp only [List.set_cons_succ, List.set_cons_zero] at hM) | (refine wpList_store1_mem rfl _ _ _ rfl 3 _ _ _ _ _ hM rfl rfl (by first | ((conv => lhs; whnf); done) | ((conv => lhs; whnf); rfl)) (by rfl) (by rfl) (by kernel_rfl) rfl ?_; clear hM; intro W hM; simp only [List.set_cons_succ, List.set_cons_zero] at hM)))
              refine contI_normal ⟨fun r hr => hM.get 0 hr, trivial⟩ ?_
              (try simp only [Act.put, List.getElem_toArray, List.getElem_cons_succ, List.getElem_cons_zero, List.setIfInBounds_toArray, List.set_cons_zero, List.set_cons_succ])
              refine wpI_done (by kernel_rfl) ?_ _
              (try simp only [Act.put, List.getElem_toArray, List.getElem_cons_succ, List.getElem_cons_zero, List.setIfInBounds_toArray, List.set_cons_zero, List.set_cons_succ])
              go_wp2_with fail
              go_roundg (2 - (1 + 1))
              case measure => have := HGK.out; omega
              case rel => exact ⟨2, v2, _, rfl, by omega, rfl, hM, Lib.hid (.inr (.inr ⟨rfl, by rw [HR1.out, List.append_assoc]⟩))⟩
        · have HR1 := Lib.hid h1
          clear h1 HC
          go_wp2_with fail
          (first | go_end0 | (refine bodyPost_ret (results_none rfl _ _ _) rfl ?_))
          replace hM := (show MemX E w _ ([atR gb 33 [.int .u32 (num p), .int .i64 p.length]] ++ (oL go v' rs' ++ (RT.node g T ext l r true x).res)) from hM).drop_
          have hrl : rs' = rs ++ (RT.node g T ext l r true x).lst p := by
            rw [HR1.out, HRS0.out]; simp [RT.lst]
          rw [hrl] at hM
          exact ⟨v', rfl, hM⟩

end Go.Proofs.Ytppjmhkecogbcaa
