/- route: Add. Written by my genrt.py. -/
import Derived.Test.YtppjmhkecogbcaaRtE
namespace Go.Proofs.Ytppjmhkecogbcaa
open Go.RowKit Go.Lib
set_option linter.unusedVariables false
set_option linter.unusedSimpArgs false


theorem RT.ptr_nil0 : RT.nil.ptr = .pointer none := rfl
theorem RT.ptr_node (g : Nat) (T : TypeId) (e : List Value) (l r : RT) (s : Bool) (v : Int) : (RT.node g T e l r s v).ptr = .pointer (some ⟨g, 0, none⟩) := rfl
theorem graftL (X N : Res) (R Z : List Res) : (X :: (((([] : List Res) ++ R) ++ Z) ++ [N])).Perm ((X :: ((N :: ([] ++ [])) ++ R)) ++ Z) := by
  simp only [List.nil_append, List.cons_append]
  exact List.Perm.cons _ (List.perm_append_comm (l₁ := R ++ Z) (l₂ := [N]))
theorem graftR (X N : Res) (L Z : List Res) : (X :: (((L ++ ([] : List Res)) ++ Z) ++ [N])).Perm ((X :: (L ++ (N :: ([] ++ [])))) ++ Z) := by
  simp only [List.append_nil, List.cons_append, List.append_assoc]
  exact List.Perm.cons _ ((List.perm_append_comm (l₁ := Z) (l₂ := [N])).append_left L)
theorem keep_left {E : Nat → Prop} {w W : World} {A B : List Res} (h : MemX E w W (A ++ B)) : MemX E w W A := (h.take_ A.length).conv (by simp)
theorem res_front {E : Nat → Prop} {w W : World} {A : Res} {t : RT} (h : MemX E w W (A :: t.res)) : MemX E w W (t.res ++ [A]) := h.perm (List.perm_append_comm (l₁ := [A]) (l₂ := t.res))
theorem res_back {E : Nat → Prop} {w W : World} {A : Res} {t : RT} (h : MemX E w W (t.res ++ [A])) : MemX E w W (A :: t.res) := h.perm (List.perm_append_comm (l₁ := t.res) (l₂ := [A]))
theorem tab_find {E : Nat → Prop} {g m : Nat} {t : RT} {a n : Nat} {w W : World} {A : Res} (hM : MemX E w W (A :: t.res)) (hT : Tab g t m) (ha : a ≤ 4294967295) (hn : n ≤ 32) :
    Calls Try.prog 23 #[.pointer (some ⟨g, 0, none⟩), .agg #[.int .u32 a, .int .i64 n]] W fun e w' => e = .returned (t.sub (path a n)).ptr ∧ Below W.heap.size W w' :=
  find_any g m t a n W (res_front hM).hand hT ha hn

set_option maxRecDepth 100000 in
set_option maxHeartbeats 8000000 in
theorem Add_chk (g m : Nat) (t : RT) (a : Nat) (n via : Int) (w : World) (ha : a ≤ 4294967295) (hn : -9223372036854775808 ≤ n ∧ n ≤ 9223372036854775807) (hc : chkZ a n ≠ 0) :
    Calls Try.prog 15 #[.pointer (some ⟨g, 0, none⟩), .agg #[.int .u32 a, .int .i64 n], .int .i64 via] w fun e w' => e = .returned (.int .i64 (chkZ a n)) ∧ Below w.heap.size w w' := by
  have hM := Mem.nil w
  have HC := Lib.hid (fun W => Check_any a n W (by omega) (by omega) (by omega) (by omega))
  generalize chkZ a n = c at *
  go_enter Try.func15, Try.ntmps15
  go_wp2_with (first
    | go_skip
    | (go_at_call 22; go_must (refine (HC.out _).mono ?_; rintro e W ⟨rfl, hb⟩; replace hM := hM.kept hb; clear hb))
    | ((with_reducible refine at_box_ ?_); refine wpList_box_mem rfl _ _ rfl _ rfl hM ?_; clear hM; intro gb W hM; first | (simp only [List.nil_append] at hM) | (simp only [List.cons_append, List.nil_append] at hM))
    | ((with_reducible refine at_alloc_ (T := 33) ?_); refine wpList_alloc_mem rfl 33 rfl _ zv_Prefix _ rfl hM ?_; clear hM; intro gb W hM; first | (simp only [List.nil_append] at hM) | (simp only [List.cons_append, List.nil_append] at hM))
    | ((with_reducible refine at_load_ (T := 33) ?_); refine at_wanted_ (by rfl) ?_; refine wpList_loadg_mem (by go_simp) 33 _ rfl 0 _ _ _ hM rfl rfl _ Try.underlying33 rfl sz_Prefix ?_)
    | ((with_reducible refine at_store_ (T := 33) ?_); refine wpList_store_mem rfl 33 _ _ rfl 0 _ _ _ _ hM rfl rfl rfl rfl sz_Prefix rfl ?_; clear hM; intro W hM; simp only [List.set_cons_zero] at hM))
  go_ret
  exact ⟨rfl, hM.b⟩

set_option maxRecDepth 100000 in
set_option maxHeartbeats 8000000 in
theorem Add_twice (g m : Nat) (t : RT) (a n : Nat) (via : Int) (w : World) (hM0 : MemX (blkE t.res) w w t.res) (hT : Tab g t m) (ha : a ≤ 4294967295) (hok : okP a n) (hg : (t.get (path a n)).isSome = true) :
    Calls Try.prog 15 #[.pointer (some ⟨g, 0, none⟩), .agg #[.int .u32 a, .int .i64 n], .int .i64 via] w fun e w' => e = .returned (.int .i64 8) ∧ MemX (blkE t.res) w w' t.res := by
  have hok0 := hok
  have hM := hM0
  obtain ⟨hn, ha2, hal⟩ := hok
  have HC := Lib.hid (fun W => Check_any a n W (by omega) (by omega) (by omega) (by omega))
  rw [okP_chk hok0] at HC
  clear hM0 hok0 hal ha2
  obtain ⟨u, hu⟩ : ∃ u, t.sub (path a n) = u := ⟨_, rfl⟩
  have HF := Lib.hid (fun (E : Nat → Prop) W W' (A : Res) (h : MemX E W W' (A :: t.res)) => tab_find h hT ha hn)
  rw [hu] at HF
  cases u with
  | nil => unfold RT.get at hg; rw [hu] at hg; simp [RT.here] at hg
  | node g' T e l r s v =>
    rw [get_node hu] at hg
    cases s
    · simp at hg
    · have HU := Lib.hid hu
      clear hu hg
      simp only [RT.ptr] at HF
      go_enter Try.func15, Try.ntmps15
      go_upto_region 1 with (first | go_skip | ((with_reducible refine at_box_ ?_); refine wpList_box_mem rfl _ _ rfl _ rfl hM ?_; clear hM; intro gb W hM))
      replace hM := res_back (show MemX (blkE t.res) w W (t.res ++ [atR gb 33 [.int .u32 a, .int .i64 n]]) from hM)
      go_upto_region 5 with         (first
          | go_skip
          | (go_at_call 22; go_must (refine (HC.out _).mono ?_; rintro e W ⟨rfl, hb⟩; replace hM := hM.kept hb; clear hb))
          | (go_at_call 23; refine (HF.out _ _ _ _ hM).mono ?_; rintro e W ⟨rfl, hb⟩; replace hM := hM.kept hb; clear hb)
          | ((with_reducible refine at_box_ ?_); refine wpList_box_mem rfl _ _ rfl _ rfl hM ?_; clear hM; intro gb W hM; first | (simp only [List.nil_append] at hM) | (simp only [List.cons_append, List.nil_append] at hM))
          | ((with_reducible refine at_alloc_ (T := 33) ?_); refine wpList_alloc_mem rfl 33 rfl _ zv_Prefix _ rfl hM ?_; clear hM; intro gb W hM; first | (simp only [List.nil_append] at hM) | (simp only [List.cons_append, List.nil_append] at hM))
          | ((with_reducible refine at_load_ (T := 33) ?_); refine at_wanted_ (by rfl) ?_; refine wpList_loadg_mem (by go_simp) 33 _ rfl 0 _ _ _ hM rfl rfl _ Try.underlying33 rfl sz_Prefix ?_)
          | ((with_reducible refine at_store_ (T := 33) ?_); refine wpList_store_mem rfl 33 _ _ rfl 0 _ _ _ _ hM rfl rfl rfl rfl sz_Prefix rfl ?_; clear hM; intro W hM; simp only [List.set_cons_zero] at hM))

      have cn := (rt_at (res_front hM) _ HU.out).cell
      simp only [RT.cs] at cn
      go_wp2_with fail
      go_ret
      have h2 := res_front hM
      exact ⟨rfl, h2.take_ t.res.length |>.conv (by simp)⟩

set_option maxRecDepth 100000 in
set_option maxHeartbeats 8000000 in
theorem Add_full (g m : Nat) (t : RT) (a n : Nat) (via : Int) (w : World) (hM0 : MemX (blkE t.res) w w t.res) (hT : Tab g t m) (ha : a ≤ 4294967295) (hok : okP a n) (hg : t.get (path a n) = none) (hm : m = 64) :
    Calls Try.prog 15 #[.pointer (some ⟨g, 0, none⟩), .agg #[.int .u32 a, .int .i64 n], .int .i64 via] w fun e w' => e = .returned (.int .i64 9) ∧ MemX (blkE t.res) w w' t.res := by
  have hok0 := hok
  subst hm
  have hM := hM0
  obtain ⟨hn, ha2, hal⟩ := hok
  have HC := Lib.hid (fun W => Check_any a n W (by omega) (by omega) (by omega) (by omega))
  rw [okP_chk hok0] at HC
  clear hM0 hok0 hal ha2
  obtain ⟨u, hu⟩ : ∃ u, t.sub (path a n) = u := ⟨_, rfl⟩
  have HF := Lib.hid (fun (E : Nat → Prop) W W' (A : Res) (h : MemX E W W' (A :: t.res)) => tab_find h hT ha hn)
  rw [hu] at HF
  go_enter Try.func15, Try.ntmps15
  go_upto_region 1 with (first | go_skip | ((with_reducible refine at_box_ ?_); refine wpList_box_mem rfl _ _ rfl _ rfl hM ?_; clear hM; intro gb W hM))
  replace hM := res_back (show MemX (blkE t.res) w W (t.res ++ [atR gb 33 [.int .u32 a, .int .i64 n]]) from hM)
  go_upto_region 5 with         (first
          | go_skip
          | (go_at_call 22; go_must (refine (HC.out _).mono ?_; rintro e W ⟨rfl, hb⟩; replace hM := hM.kept hb; clear hb))
          | (go_at_call 23; refine (HF.out _ _ _ _ hM).mono ?_; rintro e W ⟨rfl, hb⟩; replace hM := hM.kept hb; clear hb)
          | ((with_reducible refine at_box_ ?_); refine wpList_box_mem rfl _ _ rfl _ rfl hM ?_; clear hM; intro gb W hM; first | (simp only [List.nil_append] at hM) | (simp only [List.cons_append, List.nil_append] at hM))
          | ((with_reducible refine at_alloc_ (T := 33) ?_); refine wpList_alloc_mem rfl 33 rfl _ zv_Prefix _ rfl hM ?_; clear hM; intro gb W hM; first | (simp only [List.nil_append] at hM) | (simp only [List.cons_append, List.nil_append] at hM))
          | ((with_reducible refine at_load_ (T := 33) ?_); refine at_wanted_ (by rfl) ?_; refine wpList_loadg_mem (by go_simp) 33 _ rfl 0 _ _ _ hM rfl rfl _ Try.underlying33 rfl sz_Prefix ?_)
          | ((with_reducible refine at_store_ (T := 33) ?_); refine wpList_store_mem rfl 33 _ _ rfl 0 _ _ _ _ hM rfl rfl rfl rfl sz_Prefix rfl ?_; clear hM; intro W hM; simp only [List.set_cons_zero] at hM))
  go_upto_region 5 with (fail)
  go_cut [19] (fun b wc => b = .bool false ∧ wc = W)
  case first =>
    cases u with
    | nil =>
      simp only [RT.ptr]
      go_wp2_with fail
      go_meet
      case rel => exact ⟨rfl, rfl⟩
    | node g' T e l r s v =>
      rw [get_node hu] at hg
      cases s
      · simp only [RT.ptr]
        have cn := (rt_at (res_front hM) _ hu).cell
        simp only [RT.cs] at cn
        clear hu hg
        go_wp2_with fail
        go_meet
        case rel => exact ⟨rfl, rfl⟩
      · simp at hg
  case rest =>
    obtain ⟨rfl, hwc⟩ := hcut
    have hwc' := hwc.symm
    clear hwc
    subst hwc'
    obtain ⟨l, r, s, v, ht⟩ := hT.shape
    have hR0 := (rt_at (res_front hM) [] (show t.sub [] = _ from ht))
    have cr := hR0.cell
    have lr := hR0.lt
    simp only [RT.cs] at cr
    clear hR0 ht
    go_wp2_with fail
    go_ret
    have h2 := res_front hM
    exact ⟨rfl, h2.take_ t.res.length |>.conv (by simp)⟩

set_option maxRecDepth 100000 in
set_option maxHeartbeats 8000000 in
theorem Add_ok (g m : Nat) (t : RT) (a n : Nat) (via : Int) (w : World) (hM0 : MemX (blkE t.res) w w t.res) (hT : Tab g t m) (ha : a ≤ 4294967295) (hok : okP a n) (hg : t.get (path a n) = none) (hm : m < 64) :
    Calls Try.prog 15 #[.pointer (some ⟨g, 0, none⟩), .agg #[.int .u32 a, .int .i64 n], .int .i64 via] w fun e w' => ∃ t' : RT, e = .returned (.int .i64 0) ∧ MemX (blkE t.res) w w' t'.res ∧ Tab g t' (m + 1) ∧ ∀ q, t'.get q = if q = path a n then some via else t.get q := by
  have hok0 := hok
  have hm64 : ((m : Int) == 64) = false := by simp; omega
  have hM := hM0
  obtain ⟨hn, ha2, hal⟩ := hok
  have HC := Lib.hid (fun W => Check_any a n W (by omega) (by omega) (by omega) (by omega))
  rw [okP_chk hok0] at HC
  clear hM0 hok0 hal ha2
  obtain ⟨u, hu⟩ : ∃ u, t.sub (path a n) = u := ⟨_, rfl⟩
  have HF := Lib.hid (fun (E : Nat → Prop) W W' (A : Res) (h : MemX E W W' (A :: t.res)) => tab_find h hT ha hn)
  rw [hu] at HF
  go_enter Try.func15, Try.ntmps15
  go_upto_region 1 with (first | go_skip | ((with_reducible refine at_box_ ?_); refine wpList_box_mem rfl _ _ rfl _ rfl hM ?_; clear hM; intro gb W hM))
  replace hM := res_back (show MemX (blkE t.res) w W (t.res ++ [atR gb 33 [.int .u32 a, .int .i64 n]]) from hM)
  go_upto_region 5 with         (first
          | go_skip
          | (go_at_call 22; go_must (refine (HC.out _).mono ?_; rintro e W ⟨rfl, hb⟩; replace hM := hM.kept hb; clear hb))
          | (go_at_call 23; refine (HF.out _ _ _ _ hM).mono ?_; rintro e W ⟨rfl, hb⟩; replace hM := hM.kept hb; clear hb)
          | ((with_reducible refine at_box_ ?_); refine wpList_box_mem rfl _ _ rfl _ rfl hM ?_; clear hM; intro gb W hM; first | (simp only [List.nil_append] at hM) | (simp only [List.cons_append, List.nil_append] at hM))
          | ((with_reducible refine at_alloc_ (T := 33) ?_); refine wpList_alloc_mem rfl 33 rfl _ zv_Prefix _ rfl hM ?_; clear hM; intro gb W hM; first | (simp only [List.nil_append] at hM) | (simp only [List.cons_append, List.nil_append] at hM))
          | ((with_reducible refine at_load_ (T := 33) ?_); refine at_wanted_ (by rfl) ?_; refine wpList_loadg_mem (by go_simp) 33 _ rfl 0 _ _ _ hM rfl rfl _ Try.underlying33 rfl sz_Prefix ?_)
          | ((with_reducible refine at_store_ (T := 33) ?_); refine wpList_store_mem rfl 33 _ _ rfl 0 _ _ _ _ hM rfl rfl rfl rfl sz_Prefix rfl ?_; clear hM; intro W hM; simp only [List.set_cons_zero] at hM))
  go_upto_region 5 with (fail)
  go_cut [19] (fun b wc => b = .bool false ∧ wc = W)
  case first =>
    cases u with
    | nil =>
      simp only [RT.ptr]
      go_wp2_with fail
      go_meet
      case rel => exact ⟨rfl, rfl⟩
    | node g' T e l r s v =>
      rw [get_node hu] at hg
      cases s
      · simp only [RT.ptr]
        have cn := (rt_at (res_front hM) _ hu).cell
        simp only [RT.cs] at cn
        clear hu hg
        go_wp2_with fail
        go_meet
        case rel => exact ⟨rfl, rfl⟩
      · simp at hg
  case rest =>
    obtain ⟨rfl, hwc⟩ := hcut
    have hwc' := hwc.symm
    clear hwc
    subst hwc'
    obtain ⟨l, r, s, v, ht⟩ := hT.shape
    have hR0 := (rt_at (res_front hM) [] (show t.sub [] = _ from ht))
    have cr := hR0.cell
    have lr := hR0.lt
    simp only [RT.cs] at cr
    clear hR0 ht
    go_upto_region 10 with (fail)
    clear cr lr
    go_upto_region 11 with         (first
          | go_skip
          | ((with_reducible refine at_box_ ?_); refine wpList_box_mem rfl _ _ rfl _ rfl hM ?_; clear hM; intro gb W hM; first | (simp only [List.nil_append] at hM) | (simp only [List.cons_append, List.nil_append] at hM))
          | ((with_reducible refine at_load_ ?_); refine at_wanted_ (by rfl) ?_; refine wpList_loadf_mem (by go_simp) _ _ rfl (by kernel_rfl) 0 _ _ _ _ _ hM rfl rfl (by first | rfl | assumption) ?_)
          | ((with_reducible refine at_store_ ?_); refine wpList_store1_mem rfl _ _ _ rfl 0 _ _ _ _ _ hM rfl rfl (by first | ((conv => lhs; whnf); done) | ((conv => lhs; whnf); rfl)) (by rfl) (by rfl) (by kernel_rfl) rfl ?_; clear hM; intro W hM; simp only [List.set_cons_succ, List.set_cons_zero] at hM))
    have HG0 := Lib.hid (fun q => (rfl : t.get q = t.get q))
    have HHG := Lib.hid hT.hgt
    have HCN := Lib.hid hT.cnt
    have HSH := Lib.hid hT.shape
    have HPT := Lib.hid hT.ptr
    have HNE := Lib.hid hT.ne
    clear hT HF
    go_loopg [39, 8] n (fun gh i q wr => ∃ (k : Nat) (tk : RT), gh = n - k ∧ k ≤ n ∧ i = .int .i64 k ∧ q = (tk.sub (path a k)).ptr ∧ MemX (blkE t.res) w wr (atR gb 33 [.int .u32 a, .int .i64 n] :: tk.res) ∧ Hid (tk.sub (path a k) ≠ .nil) ∧ Hid (∃ l r s v, tk = .node g 69 [.int .i64 m] l r s v) ∧ Hid (tk.hgt ≤ 33) ∧ Hid (tk.cnt = m) ∧ Hid (∀ q, tk.get q = t.get q))
    case atStart => exact ⟨0, t, by omega, by omega, rfl, HPT.out.symm, hM, HNE, HSH, HHG, HCN, HG0⟩
    case round =>
      clear hM HG0 HHG HCN HSH HPT HNE
      obtain ⟨k, tk, hgk, hk, rfl, hq, hM, HNE, HSH, HHG, HCN, HG⟩ := hrel
      have HGK := Lib.hid hgk
      clear hgk
      obtain ⟨u, hu⟩ : ∃ u, tk.sub (path a k) = u := ⟨_, rfl⟩
      rw [hu] at hq
      by_cases hlt : k < n
      · cases u with
        | nil => exact absurd hu HNE.out
        | node g' T e l r s v =>
          have HBT := Lib.hid (fun W => bit_any a k W ha (by omega))
          simp only [RT.ptr] at hq
          subst hq
          have hpl : (path a k).length = k := path_len a k
          have hks : ∀ b, tk.sub (path a k ++ [b]) = if b then r else l := fun b => by rw [RT.sub_snoc, hu]; rfl
          obtain ⟨rest, hp1, hp2⟩ := RT.split (path a k) tk
          rw [hu] at hp1 hp2
          have HU := Lib.hid hu
          have HPP := Lib.hid hp2
          have HPQ := Lib.hid hp1
          obtain ⟨PL, hPL⟩ : ∃ PL, PL = (l.res ++ r.res) ++ rest := ⟨_, rfl⟩
          have hM2 : MemX (blkE t.res) w wr (atR gb 33 [.int .u32 a, .int .i64 n] :: atR g' T (l.ptr :: r.ptr :: .bool s :: .int .i64 v :: e) :: PL) := by
            rw [hPL]
            exact hM.perm (hp1.cons _)
          have HPL := Lib.hid hPL
          have HKS := Lib.hid hks
          have HPN := Lib.hid hpl
          clear hM hp1 hp2 hu hPL hks hpl
          have hM := hM2
          clear hM2
          have c0 := hM.cells 0 rfl
          have l0 := hM.lt 0 rfl
          have c1 := hM.cells 1 rfl
          have l1 := hM.lt 1 rfl
          go_upto_region 13 with (fail)
          cases hb : pb a k
          · rw [show bitZ a k = 0 by unfold bitZ; rw [hb]; rfl] at HBT
            have HB := Lib.hid hb
            clear hb
            refine wp_region_later (by kernel_rfl) (by kernel_rfl) (fun hlc => ?_)
            repeat (go_big_quiet_step (first | (go_at_call 27; exact later_same (HBT.out _))))
            refine wpQuiet_nil ?_
            intro wq hbq
            clear hlc c0 l0 c1 l1
            replace hM := hM.kept hbq
            clear hbq
            have c1 := hM.cells 1 rfl
            have l1 := hM.lt 1 rfl
            cases l with
            | nil =>
              simp only [RT.ptr_nil0, RT.ptr_node] at hM c1
              go_upto_region 15 with (fail)
              clear c1 l1
              go_upto_region 16 with (first | go_skip | ((with_reducible refine at_box_ ?_); refine wpList_box_mem rfl _ _ rfl [.pointer none, .pointer none, .bool false, .int .i64 0] rfl hM ?_; clear hM; intro gn W hM) | ((with_reducible refine at_store_ ?_); refine wpList_store1_mem rfl _ _ _ rfl 1 _ _ _ _ _ hM rfl rfl (by first | ((conv => lhs; whnf); done) | ((conv => lhs; whnf); rfl)) (by rfl) (by rfl) (by kernel_rfl) rfl ?_; clear hM; intro W hM))
              replace hM : MemX (blkE t.res) w W (atR gb 33 [.int .u32 a, .int .i64 n] :: atR g' T ((.pointer (some ⟨gn, 0, none⟩) :: r.ptr :: .bool s :: .int .i64 v :: e)) :: (PL ++ [atR gn 67 [.pointer none, .pointer none, .bool false, .int .i64 0]])) := hM
              have c1 := hM.cells 1 rfl
              have l1 := hM.lt 1 rfl
              go_upto_region 17 with (fail)
              clear c1 l1
              have HG2 := Lib.hid (graft (gn := gn) false HSH.out HHG.out (by rw [HPN.out]; omega) HU.out rfl)
              rw [HPL.out] at hM
              have HM2 := Lib.hid (hM.perm (List.Perm.cons _ ((graftL _ _ _ _).trans (HPP.out ((RT.node g' T e RT.nil r s v).setKid false (newN gn)) rfl).symm)))
              clear hM
              go_wp2_with fail
              go_roundg (n - (k + 1))
              case measure => have := HGK.out; omega
              case rel => exact ⟨k + 1, _, rfl, by omega, by go_num, by rw [path_succ, HB.out, HG2.out.sub]; rfl, HM2.out, Lib.hid (by rw [path_succ, HB.out, HG2.out.sub]; intro h; cases h), Lib.hid HG2.out.shape, Lib.hid HG2.out.hgt, Lib.hid (HG2.out.cnt.trans HCN.out), Lib.hid (fun q => (HG2.out.get q).trans (HG.out q))⟩
            | node g2 T2 e2 l2 r2 s2 v2 =>
              simp only [RT.ptr_nil0, RT.ptr_node] at hM c1
              go_upto_region 17 with (fail)
              clear c1 l1
              rw [HPL.out] at hM
              have HM2 := Lib.hid (hM.perm (List.Perm.cons _ HPQ.out.symm))
              have HKS2 := Lib.hid (HKS.out false)
              clear hM
              go_wp2_with fail
              go_roundg (n - (k + 1))
              case measure => have := HGK.out; omega
              case rel => exact ⟨k + 1, tk, rfl, by omega, by go_num, by rw [path_succ, HB.out, HKS2.out]; rfl, HM2.out, Lib.hid (by rw [path_succ, HB.out, HKS2.out]; intro h; cases h), HSH, HHG, HCN, HG⟩
          · rw [show bitZ a k = 1 by unfold bitZ; rw [hb]; rfl] at HBT
            have HB := Lib.hid hb
            clear hb
            refine wp_region_later (by kernel_rfl) (by kernel_rfl) (fun hlc => ?_)
            repeat (go_big_quiet_step (first | (go_at_call 27; exact later_same (HBT.out _))))
            refine wpQuiet_nil ?_
            intro wq hbq
            clear hlc c0 l0 c1 l1
            replace hM := hM.kept hbq
            clear hbq
            have c1 := hM.cells 1 rfl
            have l1 := hM.lt 1 rfl
            cases r with
            | nil =>
              simp only [RT.ptr_nil0, RT.ptr_node] at hM c1
              go_upto_region 15 with (fail)
              clear c1 l1
              go_upto_region 16 with (first | go_skip | ((with_reducible refine at_box_ ?_); refine wpList_box_mem rfl _ _ rfl [.pointer none, .pointer none, .bool false, .int .i64 0] rfl hM ?_; clear hM; intro gn W hM) | ((with_reducible refine at_store_ ?_); refine wpList_store1_mem rfl _ _ _ rfl 1 _ _ _ _ _ hM rfl rfl (by first | ((conv => lhs; whnf); done) | ((conv => lhs; whnf); rfl)) (by rfl) (by rfl) (by kernel_rfl) rfl ?_; clear hM; intro W hM))
              replace hM : MemX (blkE t.res) w W (atR gb 33 [.int .u32 a, .int .i64 n] :: atR g' T ((l.ptr :: .pointer (some ⟨gn, 0, none⟩) :: .bool s :: .int .i64 v :: e)) :: (PL ++ [atR gn 67 [.pointer none, .pointer none, .bool false, .int .i64 0]])) := hM
              have c1 := hM.cells 1 rfl
              have l1 := hM.lt 1 rfl
              go_upto_region 17 with (fail)
              clear c1 l1
              have HG2 := Lib.hid (graft (gn := gn) true HSH.out HHG.out (by rw [HPN.out]; omega) HU.out rfl)
              rw [HPL.out] at hM
              have HM2 := Lib.hid (hM.perm (List.Perm.cons _ ((graftR _ _ _ _).trans (HPP.out ((RT.node g' T e l RT.nil s v).setKid true (newN gn)) rfl).symm)))
              clear hM
              go_wp2_with fail
              go_roundg (n - (k + 1))
              case measure => have := HGK.out; omega
              case rel => exact ⟨k + 1, _, rfl, by omega, by go_num, by rw [path_succ, HB.out, HG2.out.sub]; rfl, HM2.out, Lib.hid (by rw [path_succ, HB.out, HG2.out.sub]; intro h; cases h), Lib.hid HG2.out.shape, Lib.hid HG2.out.hgt, Lib.hid (HG2.out.cnt.trans HCN.out), Lib.hid (fun q => (HG2.out.get q).trans (HG.out q))⟩
            | node g2 T2 e2 l2 r2 s2 v2 =>
              simp only [RT.ptr_nil0, RT.ptr_node] at hM c1
              go_upto_region 17 with (fail)
              clear c1 l1
              rw [HPL.out] at hM
              have HM2 := Lib.hid (hM.perm (List.Perm.cons _ HPQ.out.symm))
              have HKS2 := Lib.hid (HKS.out true)
              clear hM
              go_wp2_with fail
              go_roundg (n - (k + 1))
              case measure => have := HGK.out; omega
              case rel => exact ⟨k + 1, tk, rfl, by omega, by go_num, by rw [path_succ, HB.out, HKS2.out]; rfl, HM2.out, Lib.hid (by rw [path_succ, HB.out, HKS2.out]; intro h; cases h), HSH, HHG, HCN, HG⟩
      · obtain rfl : n = k := by omega
        cases u with
        | nil => exact absurd hu HNE.out
        | node g' T e l r s v =>
          simp only [RT.ptr] at hq
          subst hq
          have hs : s = false := by
            have h1 := HG.out (path a n)
            rw [get_node hu, hg] at h1
            cases s
            · rfl
            · cases h1
          subst hs
          have hS := set_node true via (m + 1) HSH.out HHG.out hu (by rw [HCN.out]; rfl)
          obtain ⟨rest, hp1, hp2⟩ := RT.split (path a n) tk
          rw [hu] at hp1 hp2
          have HPP := Lib.hid (hp2 (.node g' T e l r true via) rfl)
          obtain ⟨PL, hPL⟩ : ∃ PL, PL = (l.res ++ r.res) ++ rest := ⟨_, rfl⟩
          have hM2 : MemX (blkE t.res) w wr (atR gb 33 [.int .u32 a, .int .i64 n] :: atR g' T (l.ptr :: r.ptr :: .bool false :: .int .i64 v :: e) :: PL) := by
            rw [hPL]
            exact hM.perm (hp1.cons _)
          have HPL := Lib.hid hPL
          have HS := Lib.hid hS
          have HG3 := Lib.hid (fun q => (hS.get q).trans (by rw [HG.out q]; rfl : _ = if q = path a n then some via else t.get q))
          clear hM hp1 hp2 hu hPL hS HG HNE HSH HHG HCN
          have hM := hM2
          clear hM2
          go_upto_region 19 with (first | go_skip | ((with_reducible refine at_store_ ?_); refine wpList_store1_mem rfl _ _ _ rfl 1 _ _ _ _ _ hM rfl rfl (by first | ((conv => lhs; whnf); done) | ((conv => lhs; whnf); rfl)) (by rfl) (by rfl) (by kernel_rfl) rfl ?_; clear hM; intro W hM))
          replace hM : MemX (blkE t.res) w W (atR gb 33 [.int .u32 a, .int .i64 n] :: atR g' T (l.ptr :: r.ptr :: .bool true :: .int .i64 via :: e) :: PL) := hM
          rw [HPL.out] at hM
          replace hM := hM.perm (List.Perm.cons _ HPP.out.symm)
          generalize htt : tk.put (path a n) (.node g' T e l r true via) = t2 at *
          clear HPP HPL htt
          obtain ⟨l2, r2, s2, v2, ht2⟩ := HS.out.shape
          have HT2 := Lib.hid ht2
          rw [ht2] at hM
          replace hM : MemX (blkE t.res) w W (atR gb 33 [.int .u32 a, .int .i64 n] :: atR g 69 [l2.ptr, r2.ptr, .bool s2, .int .i64 v2, .int .i64 m] :: (l2.res ++ r2.res)) := hM
          clear ht2
          have c1 := hM.cells 1 rfl
          have l1 := hM.lt 1 rfl
          have hm63 : m ≤ 63 := by omega
          go_upto_region 20 with (first | go_skip | ((with_reducible refine at_store_ ?_); refine wpList_store1_mem rfl _ _ _ rfl 1 _ _ _ _ _ hM rfl rfl (by first | ((conv => lhs; whnf); done) | ((conv => lhs; whnf); rfl)) (by rfl) (by rfl) (by kernel_rfl) rfl ?_; clear hM c1 l1; intro W hM))
          replace hM : MemX (blkE t.res) w W ([atR gb 33 [.int .u32 a, .int .i64 n]] ++ (RT.node g 69 [.int .i64 ((m + 1 : Nat) : Int)] l2 r2 s2 v2).res) := hM
          go_wp2_with fail
          go_ret
          have hS := HS.out
          rw [HT2.out] at hS
          refine ⟨rfl, RT.node g 69 [.int .i64 ((m + 1 : Nat) : Int)] l2 r2 s2 v2, hM.drop_, ⟨⟨l2, r2, s2, v2, rfl⟩, hS.hgt, hS.cnt, by omega⟩, fun q => ?_⟩
          rw [← HG3.out q, HT2.out]
          cases q <;> rfl

end Go.Proofs.Ytppjmhkecogbcaa
